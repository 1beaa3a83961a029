/-
  Plain functions: tag_Right, mandolineref05_Right, tag_Weak, tag_Strong, mandolineref05_Weak, mandolineref05_Strong, tag_In, mandolineref08_one, cond_failed, cond_same, cond_Check, mandolineref08_Check. Its conditions: none.
-/
import Derived.Test.YtchlkbnjamgihaaNat
namespace Go.Proofs.Ytchlkbnjamgihaa
open Go Go.Den
set_option maxRecDepth 100000
set_option linter.unusedSimpArgs false
set_option linter.unusedVariables false
inductive tag_Right.l0X where
  | x0
  | ret
noncomputable def tag_Right.l0B (a0 : api_Tag) (v8_8 : Int) : Option (Step (Int) tag_Right.l0X) :=
  bif (decide (v8_8 < (a0.Text.length : Int))) then
    (idx a0.Text v8_8).bind fun x19 =>
    bif (decide ((x19.toNat : Int) = 33)) then
      some (.next (IntKind.i64.wrap (v8_8 + 1)))
    else
      bif (decide ((x19.toNat : Int) < 35)) then
        some (.done (.ret))
      else
        bif (decide ((126 : Int) < (x19.toNat : Int))) then
          some (.done (.ret))
        else
          some (.next (IntKind.i64.wrap (v8_8 + 1)))
  else
    some (.done (.x0))
set_option maxHeartbeats 4000000 in
theorem tag_Right.l0_ok {α : Type} {F : Env → Heap → Option α} {K : List Fr} (fin : tag_Right.l0X → Option α) (a0 : api_Tag)
    (hx0 : ∀ (e : Env) (H : Heap), e 1 = (.ptr [1] 1 0 0) → H [1] = (1, some ⟨false, false, 2, [(.agg [(.str a0.Text), (.bool a0.Weak)])]⟩) → outL X [] F K e H 0 = fin (.x0))
    (hret : ∀ (e : Env) (H : Heap), e 2 = (.bool false) → F e H = fin (.ret)) (v8_8 : Int) (e : Env) (H : Heap) (g1_8 : e 1 = (.ptr [1] 1 0 0)) (g7_8 : e 7 = (.int .i64 (a0.Text.length : Int))) (g8_8 : e 8 = (.int .i64 v8_8)) (k1_8 : H [1] = (1, some ⟨false, false, 2, [(.agg [(.str a0.Text), (.bool a0.Weak)])]⟩)) :
    runL X [] F (.c (.loop c22_l0) :: K) e H = (loopL (tag_Right.l0B a0) v8_8).bind fin := by
  refine loop_of (R := fun (v8_8 : Int) (e : Env) (H : Heap) => e 1 = (.ptr [1] 1 0 0) ∧ e 7 = (.int .i64 (a0.Text.length : Int)) ∧ e 8 = (.int .i64 v8_8) ∧ H [1] = (1, some ⟨false, false, 2, [(.agg [(.str a0.Text), (.bool a0.Weak)])]⟩)) fin ?_ ⟨g1_8, g7_8, g8_8, k1_8⟩
  clear k1_8 g8_8 g7_8 g1_8 e H v8_8
  intro n G hn hd s e H hR
  revert hR; revert s; intro v8_8 hR
  obtain ⟨g1_8, g7_8, g8_8, k1_8⟩ := hR
  simp only [D, DT, reduceIte, reduceCtorEq, Nat.reduceEqDiff, Nat.reduceAdd, Nat.reduceLT, Nat.reduceLeDiff, Nat.reduceBEq, Int.reduceLE, Int.reduceLT, Int.reduceEq, Int.reduceNeg, tag_Right.l0B, g1_8, g7_8, g8_8, k1_8, c22_l0]
  cases h17 : (decide (v8_8 < (a0.Text.length : Int)))
  · simp only [D, DT, reduceIte, reduceCtorEq, Nat.reduceEqDiff, Nat.reduceAdd, Nat.reduceLT, Nat.reduceLeDiff, Nat.reduceBEq, Int.reduceLE, Int.reduceLT, Int.reduceEq, Int.reduceNeg, g1_8, g7_8, g8_8, k1_8, c22_l0, h17]
    exact (hx0 _ _ (by first | (simp only [D, DT, reduceIte, reduceCtorEq, Nat.reduceEqDiff, Nat.reduceAdd, Nat.reduceLT, Nat.reduceLeDiff, Nat.reduceBEq, Int.reduceLE, Int.reduceLT, Int.reduceEq, Int.reduceNeg, g1_8, g7_8, g8_8, k1_8, c22_l0, h17] <;> rfl) | rfl) (by first | (simp only [D, DT, reduceIte, reduceCtorEq, Nat.reduceEqDiff, Nat.reduceAdd, Nat.reduceLT, Nat.reduceLeDiff, Nat.reduceBEq, Int.reduceLE, Int.reduceLT, Int.reduceEq, Int.reduceNeg, g1_8, g7_8, g8_8, k1_8, c22_l0, h17] <;> rfl) | rfl)).trans (hd _).symm
  · simp only [D, DT, reduceIte, reduceCtorEq, Nat.reduceEqDiff, Nat.reduceAdd, Nat.reduceLT, Nat.reduceLeDiff, Nat.reduceBEq, Int.reduceLE, Int.reduceLT, Int.reduceEq, Int.reduceNeg, g1_8, g7_8, g8_8, k1_8, c22_l0, h17]
    rcases h18 : idx a0.Text v8_8 with _ | x19
    · simp only [D, DT, reduceIte, reduceCtorEq, Nat.reduceEqDiff, Nat.reduceAdd, Nat.reduceLT, Nat.reduceLeDiff, Nat.reduceBEq, Int.reduceLE, Int.reduceLT, Int.reduceEq, Int.reduceNeg, g1_8, g7_8, g8_8, k1_8, c22_l0, h17, h18]
    · simp only [D, DT, reduceIte, reduceCtorEq, Nat.reduceEqDiff, Nat.reduceAdd, Nat.reduceLT, Nat.reduceLeDiff, Nat.reduceBEq, Int.reduceLE, Int.reduceLT, Int.reduceEq, Int.reduceNeg, g1_8, g7_8, g8_8, k1_8, c22_l0, h17, h18]
      cases h20 : (decide ((x19.toNat : Int) = 33))
      · simp only [D, DT, reduceIte, reduceCtorEq, Nat.reduceEqDiff, Nat.reduceAdd, Nat.reduceLT, Nat.reduceLeDiff, Nat.reduceBEq, Int.reduceLE, Int.reduceLT, Int.reduceEq, Int.reduceNeg, g1_8, g7_8, g8_8, k1_8, c22_l0, h17, h18, h20]
        cases h21 : (decide ((x19.toNat : Int) < 35))
        · simp only [D, DT, reduceIte, reduceCtorEq, Nat.reduceEqDiff, Nat.reduceAdd, Nat.reduceLT, Nat.reduceLeDiff, Nat.reduceBEq, Int.reduceLE, Int.reduceLT, Int.reduceEq, Int.reduceNeg, g1_8, g7_8, g8_8, k1_8, c22_l0, h17, h18, h20, h21]
          cases h22 : (decide ((126 : Int) < (x19.toNat : Int)))
          · simp only [D, DT, reduceIte, reduceCtorEq, Nat.reduceEqDiff, Nat.reduceAdd, Nat.reduceLT, Nat.reduceLeDiff, Nat.reduceBEq, Int.reduceLE, Int.reduceLT, Int.reduceEq, Int.reduceNeg, g1_8, g7_8, g8_8, k1_8, c22_l0, h17, h18, h20, h21, h22]
            exact hn _ _ _ ⟨(by first | (simp only [D, DT, reduceIte, reduceCtorEq, Nat.reduceEqDiff, Nat.reduceAdd, Nat.reduceLT, Nat.reduceLeDiff, Nat.reduceBEq, Int.reduceLE, Int.reduceLT, Int.reduceEq, Int.reduceNeg, g1_8, g7_8, g8_8, k1_8, c22_l0, h17, h18, h20, h21, h22] <;> rfl) | rfl), (by first | (simp only [D, DT, reduceIte, reduceCtorEq, Nat.reduceEqDiff, Nat.reduceAdd, Nat.reduceLT, Nat.reduceLeDiff, Nat.reduceBEq, Int.reduceLE, Int.reduceLT, Int.reduceEq, Int.reduceNeg, g1_8, g7_8, g8_8, k1_8, c22_l0, h17, h18, h20, h21, h22] <;> rfl) | rfl), (by first | (simp only [D, DT, reduceIte, reduceCtorEq, Nat.reduceEqDiff, Nat.reduceAdd, Nat.reduceLT, Nat.reduceLeDiff, Nat.reduceBEq, Int.reduceLE, Int.reduceLT, Int.reduceEq, Int.reduceNeg, g1_8, g7_8, g8_8, k1_8, c22_l0, h17, h18, h20, h21, h22] <;> rfl) | rfl), (by first | (simp only [D, DT, reduceIte, reduceCtorEq, Nat.reduceEqDiff, Nat.reduceAdd, Nat.reduceLT, Nat.reduceLeDiff, Nat.reduceBEq, Int.reduceLE, Int.reduceLT, Int.reduceEq, Int.reduceNeg, g1_8, g7_8, g8_8, k1_8, c22_l0, h17, h18, h20, h21, h22] <;> rfl) | rfl)⟩
          · simp only [D, DT, reduceIte, reduceCtorEq, Nat.reduceEqDiff, Nat.reduceAdd, Nat.reduceLT, Nat.reduceLeDiff, Nat.reduceBEq, Int.reduceLE, Int.reduceLT, Int.reduceEq, Int.reduceNeg, g1_8, g7_8, g8_8, k1_8, c22_l0, h17, h18, h20, h21, h22]
            exact (hret _ _ (by first | (simp only [D, DT, reduceIte, reduceCtorEq, Nat.reduceEqDiff, Nat.reduceAdd, Nat.reduceLT, Nat.reduceLeDiff, Nat.reduceBEq, Int.reduceLE, Int.reduceLT, Int.reduceEq, Int.reduceNeg, g1_8, g7_8, g8_8, k1_8, c22_l0, h17, h18, h20, h21, h22] <;> rfl) | rfl)).trans (hd _).symm
        · simp only [D, DT, reduceIte, reduceCtorEq, Nat.reduceEqDiff, Nat.reduceAdd, Nat.reduceLT, Nat.reduceLeDiff, Nat.reduceBEq, Int.reduceLE, Int.reduceLT, Int.reduceEq, Int.reduceNeg, g1_8, g7_8, g8_8, k1_8, c22_l0, h17, h18, h20, h21]
          exact (hret _ _ (by first | (simp only [D, DT, reduceIte, reduceCtorEq, Nat.reduceEqDiff, Nat.reduceAdd, Nat.reduceLT, Nat.reduceLeDiff, Nat.reduceBEq, Int.reduceLE, Int.reduceLT, Int.reduceEq, Int.reduceNeg, g1_8, g7_8, g8_8, k1_8, c22_l0, h17, h18, h20, h21] <;> rfl) | rfl)).trans (hd _).symm
      · simp only [D, DT, reduceIte, reduceCtorEq, Nat.reduceEqDiff, Nat.reduceAdd, Nat.reduceLT, Nat.reduceLeDiff, Nat.reduceBEq, Int.reduceLE, Int.reduceLT, Int.reduceEq, Int.reduceNeg, g1_8, g7_8, g8_8, k1_8, c22_l0, h17, h18, h20]
        exact hn _ _ _ ⟨(by first | (simp only [D, DT, reduceIte, reduceCtorEq, Nat.reduceEqDiff, Nat.reduceAdd, Nat.reduceLT, Nat.reduceLeDiff, Nat.reduceBEq, Int.reduceLE, Int.reduceLT, Int.reduceEq, Int.reduceNeg, g1_8, g7_8, g8_8, k1_8, c22_l0, h17, h18, h20] <;> rfl) | rfl), (by first | (simp only [D, DT, reduceIte, reduceCtorEq, Nat.reduceEqDiff, Nat.reduceAdd, Nat.reduceLT, Nat.reduceLeDiff, Nat.reduceBEq, Int.reduceLE, Int.reduceLT, Int.reduceEq, Int.reduceNeg, g1_8, g7_8, g8_8, k1_8, c22_l0, h17, h18, h20] <;> rfl) | rfl), (by first | (simp only [D, DT, reduceIte, reduceCtorEq, Nat.reduceEqDiff, Nat.reduceAdd, Nat.reduceLT, Nat.reduceLeDiff, Nat.reduceBEq, Int.reduceLE, Int.reduceLT, Int.reduceEq, Int.reduceNeg, g1_8, g7_8, g8_8, k1_8, c22_l0, h17, h18, h20] <;> rfl) | rfl), (by first | (simp only [D, DT, reduceIte, reduceCtorEq, Nat.reduceEqDiff, Nat.reduceAdd, Nat.reduceLT, Nat.reduceLeDiff, Nat.reduceBEq, Int.reduceLE, Int.reduceLT, Int.reduceEq, Int.reduceNeg, g1_8, g7_8, g8_8, k1_8, c22_l0, h17, h18, h20] <;> rfl) | rfl)⟩
noncomputable def tag_Right.a0 (a0 : api_Tag) : tag_Right.l0X → Option Bool
  | .x0 =>
    bif (decide ((0 : Int) < (a0.Text.length : Int))) then
      some (decide ((a0.Text.length : Int) ≤ 100))
    else
      some false
  | .ret =>
    some false
noncomputable def tag_Right.f (a0 : api_Tag) : Option Bool :=
  (loopL (tag_Right.l0B a0) 0).bind (tag_Right.a0 a0)
set_option maxHeartbeats 4000000 in
theorem tag_Right.ok (a0 : api_Tag) : ansL X 22 [(.agg [(.str a0.Text), (.bool a0.Weak)])] = Option.map AV.bool (tag_Right.f a0) := by
  rw [ansL_run (fd := c22) rfl rfl]
  simp only [D, DT, reduceIte, reduceCtorEq, Nat.reduceEqDiff, Nat.reduceAdd, Nat.reduceLT, Nat.reduceLeDiff, Nat.reduceBEq, Int.reduceLE, Int.reduceLT, Int.reduceEq, Int.reduceNeg, c22, tag_Right.f]
  refine Eq.trans (tag_Right.l0_ok (fun x => Option.map AV.bool (tag_Right.a0 a0 x)) a0 ?_ ?_ 0 _ _ (by first | (simp only [D, DT, reduceIte, reduceCtorEq, Nat.reduceEqDiff, Nat.reduceAdd, Nat.reduceLT, Nat.reduceLeDiff, Nat.reduceBEq, Int.reduceLE, Int.reduceLT, Int.reduceEq, Int.reduceNeg] <;> rfl) | rfl) (by first | (simp only [D, DT, reduceIte, reduceCtorEq, Nat.reduceEqDiff, Nat.reduceAdd, Nat.reduceLT, Nat.reduceLeDiff, Nat.reduceBEq, Int.reduceLE, Int.reduceLT, Int.reduceEq, Int.reduceNeg] <;> rfl) | rfl) (by first | (simp only [D, DT, reduceIte, reduceCtorEq, Nat.reduceEqDiff, Nat.reduceAdd, Nat.reduceLT, Nat.reduceLeDiff, Nat.reduceBEq, Int.reduceLE, Int.reduceLT, Int.reduceEq, Int.reduceNeg] <;> rfl) | rfl) (by first | (simp only [D, DT, reduceIte, reduceCtorEq, Nat.reduceEqDiff, Nat.reduceAdd, Nat.reduceLT, Nat.reduceLeDiff, Nat.reduceBEq, Int.reduceLE, Int.reduceLT, Int.reduceEq, Int.reduceNeg] <;> rfl) | rfl)) ?_
  · intro e_23 H_23 g1_15_23 k1_15_23
    simp only [D, DT, reduceIte, reduceCtorEq, Nat.reduceEqDiff, Nat.reduceAdd, Nat.reduceLT, Nat.reduceLeDiff, Nat.reduceBEq, Int.reduceLE, Int.reduceLT, Int.reduceEq, Int.reduceNeg, tag_Right.a0, g1_15_23, k1_15_23]
    cases h24 : (decide ((0 : Int) < (a0.Text.length : Int)))
    · simp only [D, DT, reduceIte, reduceCtorEq, Nat.reduceEqDiff, Nat.reduceAdd, Nat.reduceLT, Nat.reduceLeDiff, Nat.reduceBEq, Int.reduceLE, Int.reduceLT, Int.reduceEq, Int.reduceNeg, g1_15_23, k1_15_23, h24]
      try rfl
    · simp only [D, DT, reduceIte, reduceCtorEq, Nat.reduceEqDiff, Nat.reduceAdd, Nat.reduceLT, Nat.reduceLeDiff, Nat.reduceBEq, Int.reduceLE, Int.reduceLT, Int.reduceEq, Int.reduceNeg, g1_15_23, k1_15_23, h24]
      try rfl
  · intro e_25 H_25 g2_16_25
    simp only [D, DT, reduceIte, reduceCtorEq, Nat.reduceEqDiff, Nat.reduceAdd, Nat.reduceLT, Nat.reduceLeDiff, Nat.reduceBEq, Int.reduceLE, Int.reduceLT, Int.reduceEq, Int.reduceNeg, tag_Right.a0, g2_16_25]
    try rfl
  exact mb _ _ _
inductive mandolineref05_Right.l0X where
  | x0
  | ret
noncomputable def mandolineref05_Right.l0B (a0 : api_Tag) (v10_3 : Int) : Option (Step (Int) mandolineref05_Right.l0X) :=
  bif (decide (v10_3 < (a0.Text.length : Int))) then
    (idx a0.Text v10_3).bind fun x21 =>
    bif (decide ((x21.toNat : Int) < 33)) then
      some (.done (.ret))
    else
      bif (decide ((x21.toNat : Int) = 34)) then
        some (.done (.ret))
      else
        bif (decide ((126 : Int) < (x21.toNat : Int))) then
          some (.done (.ret))
        else
          some (.next (IntKind.i64.wrap (v10_3 + 1)))
  else
    some (.done (.x0))
set_option maxHeartbeats 4000000 in
theorem mandolineref05_Right.l0_ok {α : Type} {F : Env → Heap → Option α} {K : List Fr} (fin : mandolineref05_Right.l0X → Option α) (a0 : api_Tag)
    (hx0 : ∀ (e : Env) (H : Heap), outL X [] F K e H 0 = fin (.x0))
    (hret : ∀ (e : Env) (H : Heap), e 2 = (.bool false) → F e H = fin (.ret)) (v10_3 : Int) (e : Env) (H : Heap) (g1_10 : e 1 = (.ptr [1] 1 0 0)) (g3_10 : e 3 = (.int .i64 v10_3)) (k1_10 : H [1] = (1, some ⟨false, false, 2, [(.agg [(.str a0.Text), (.bool a0.Weak)])]⟩)) :
    runL X [] F (.c (.loop c10_l0) :: K) e H = (loopL (mandolineref05_Right.l0B a0) v10_3).bind fin := by
  refine loop_of (R := fun (v10_3 : Int) (e : Env) (H : Heap) => e 1 = (.ptr [1] 1 0 0) ∧ e 3 = (.int .i64 v10_3) ∧ H [1] = (1, some ⟨false, false, 2, [(.agg [(.str a0.Text), (.bool a0.Weak)])]⟩)) fin ?_ ⟨g1_10, g3_10, k1_10⟩
  clear k1_10 g3_10 g1_10 e H v10_3
  intro n G hn hd s e H hR
  revert hR; revert s; intro v10_3 hR
  obtain ⟨g1_10, g3_10, k1_10⟩ := hR
  simp only [D, DT, reduceIte, reduceCtorEq, Nat.reduceEqDiff, Nat.reduceAdd, Nat.reduceLT, Nat.reduceLeDiff, Nat.reduceBEq, Int.reduceLE, Int.reduceLT, Int.reduceEq, Int.reduceNeg, mandolineref05_Right.l0B, g1_10, g3_10, k1_10, c10_l0]
  cases h19 : (decide (v10_3 < (a0.Text.length : Int)))
  · simp only [D, DT, reduceIte, reduceCtorEq, Nat.reduceEqDiff, Nat.reduceAdd, Nat.reduceLT, Nat.reduceLeDiff, Nat.reduceBEq, Int.reduceLE, Int.reduceLT, Int.reduceEq, Int.reduceNeg, g1_10, g3_10, k1_10, c10_l0, h19]
    exact (hx0 _ _).trans (hd _).symm
  · simp only [D, DT, reduceIte, reduceCtorEq, Nat.reduceEqDiff, Nat.reduceAdd, Nat.reduceLT, Nat.reduceLeDiff, Nat.reduceBEq, Int.reduceLE, Int.reduceLT, Int.reduceEq, Int.reduceNeg, g1_10, g3_10, k1_10, c10_l0, h19]
    rcases h20 : idx a0.Text v10_3 with _ | x21
    · simp only [D, DT, reduceIte, reduceCtorEq, Nat.reduceEqDiff, Nat.reduceAdd, Nat.reduceLT, Nat.reduceLeDiff, Nat.reduceBEq, Int.reduceLE, Int.reduceLT, Int.reduceEq, Int.reduceNeg, g1_10, g3_10, k1_10, c10_l0, h19, h20]
    · simp only [D, DT, reduceIte, reduceCtorEq, Nat.reduceEqDiff, Nat.reduceAdd, Nat.reduceLT, Nat.reduceLeDiff, Nat.reduceBEq, Int.reduceLE, Int.reduceLT, Int.reduceEq, Int.reduceNeg, g1_10, g3_10, k1_10, c10_l0, h19, h20]
      cases h22 : (decide ((x21.toNat : Int) < 33))
      · simp only [D, DT, reduceIte, reduceCtorEq, Nat.reduceEqDiff, Nat.reduceAdd, Nat.reduceLT, Nat.reduceLeDiff, Nat.reduceBEq, Int.reduceLE, Int.reduceLT, Int.reduceEq, Int.reduceNeg, g1_10, g3_10, k1_10, c10_l0, h19, h20, h22]
        cases h23 : (decide ((x21.toNat : Int) = 34))
        · simp only [D, DT, reduceIte, reduceCtorEq, Nat.reduceEqDiff, Nat.reduceAdd, Nat.reduceLT, Nat.reduceLeDiff, Nat.reduceBEq, Int.reduceLE, Int.reduceLT, Int.reduceEq, Int.reduceNeg, g1_10, g3_10, k1_10, c10_l0, h19, h20, h22, h23]
          cases h24 : (decide ((126 : Int) < (x21.toNat : Int)))
          · simp only [D, DT, reduceIte, reduceCtorEq, Nat.reduceEqDiff, Nat.reduceAdd, Nat.reduceLT, Nat.reduceLeDiff, Nat.reduceBEq, Int.reduceLE, Int.reduceLT, Int.reduceEq, Int.reduceNeg, g1_10, g3_10, k1_10, c10_l0, h19, h20, h22, h23, h24]
            exact hn _ _ _ ⟨(by first | (simp only [D, DT, reduceIte, reduceCtorEq, Nat.reduceEqDiff, Nat.reduceAdd, Nat.reduceLT, Nat.reduceLeDiff, Nat.reduceBEq, Int.reduceLE, Int.reduceLT, Int.reduceEq, Int.reduceNeg, g1_10, g3_10, k1_10, c10_l0, h19, h20, h22, h23, h24] <;> rfl) | rfl), (by first | (simp only [D, DT, reduceIte, reduceCtorEq, Nat.reduceEqDiff, Nat.reduceAdd, Nat.reduceLT, Nat.reduceLeDiff, Nat.reduceBEq, Int.reduceLE, Int.reduceLT, Int.reduceEq, Int.reduceNeg, g1_10, g3_10, k1_10, c10_l0, h19, h20, h22, h23, h24] <;> rfl) | rfl), (by first | (simp only [D, DT, reduceIte, reduceCtorEq, Nat.reduceEqDiff, Nat.reduceAdd, Nat.reduceLT, Nat.reduceLeDiff, Nat.reduceBEq, Int.reduceLE, Int.reduceLT, Int.reduceEq, Int.reduceNeg, g1_10, g3_10, k1_10, c10_l0, h19, h20, h22, h23, h24] <;> rfl) | rfl)⟩
          · simp only [D, DT, reduceIte, reduceCtorEq, Nat.reduceEqDiff, Nat.reduceAdd, Nat.reduceLT, Nat.reduceLeDiff, Nat.reduceBEq, Int.reduceLE, Int.reduceLT, Int.reduceEq, Int.reduceNeg, g1_10, g3_10, k1_10, c10_l0, h19, h20, h22, h23, h24]
            exact (hret _ _ (by first | (simp only [D, DT, reduceIte, reduceCtorEq, Nat.reduceEqDiff, Nat.reduceAdd, Nat.reduceLT, Nat.reduceLeDiff, Nat.reduceBEq, Int.reduceLE, Int.reduceLT, Int.reduceEq, Int.reduceNeg, g1_10, g3_10, k1_10, c10_l0, h19, h20, h22, h23, h24] <;> rfl) | rfl)).trans (hd _).symm
        · simp only [D, DT, reduceIte, reduceCtorEq, Nat.reduceEqDiff, Nat.reduceAdd, Nat.reduceLT, Nat.reduceLeDiff, Nat.reduceBEq, Int.reduceLE, Int.reduceLT, Int.reduceEq, Int.reduceNeg, g1_10, g3_10, k1_10, c10_l0, h19, h20, h22, h23]
          exact (hret _ _ (by first | (simp only [D, DT, reduceIte, reduceCtorEq, Nat.reduceEqDiff, Nat.reduceAdd, Nat.reduceLT, Nat.reduceLeDiff, Nat.reduceBEq, Int.reduceLE, Int.reduceLT, Int.reduceEq, Int.reduceNeg, g1_10, g3_10, k1_10, c10_l0, h19, h20, h22, h23] <;> rfl) | rfl)).trans (hd _).symm
      · simp only [D, DT, reduceIte, reduceCtorEq, Nat.reduceEqDiff, Nat.reduceAdd, Nat.reduceLT, Nat.reduceLeDiff, Nat.reduceBEq, Int.reduceLE, Int.reduceLT, Int.reduceEq, Int.reduceNeg, g1_10, g3_10, k1_10, c10_l0, h19, h20, h22]
        exact (hret _ _ (by first | (simp only [D, DT, reduceIte, reduceCtorEq, Nat.reduceEqDiff, Nat.reduceAdd, Nat.reduceLT, Nat.reduceLeDiff, Nat.reduceBEq, Int.reduceLE, Int.reduceLT, Int.reduceEq, Int.reduceNeg, g1_10, g3_10, k1_10, c10_l0, h19, h20, h22] <;> rfl) | rfl)).trans (hd _).symm
noncomputable def mandolineref05_Right.a0 : mandolineref05_Right.l0X → Option Bool
  | .x0 =>
    some true
  | .ret =>
    some false
noncomputable def mandolineref05_Right.f (a0 : api_Tag) : Option Bool :=
  bif (decide ((a0.Text.length : Int) < 1)) then
    some false
  else
    bif (decide ((100 : Int) < (a0.Text.length : Int))) then
      some false
    else
      (loopL (mandolineref05_Right.l0B a0) 0).bind (mandolineref05_Right.a0)
set_option maxHeartbeats 4000000 in
theorem mandolineref05_Right.ok (a0 : api_Tag) : ansL X 10 [(.agg [(.str a0.Text), (.bool a0.Weak)])] = Option.map AV.bool (mandolineref05_Right.f a0) := by
  rw [ansL_run (fd := c10) rfl rfl]
  simp only [D, DT, reduceIte, reduceCtorEq, Nat.reduceEqDiff, Nat.reduceAdd, Nat.reduceLT, Nat.reduceLeDiff, Nat.reduceBEq, Int.reduceLE, Int.reduceLT, Int.reduceEq, Int.reduceNeg, c10, mandolineref05_Right.f]
  cases h1 : (decide ((a0.Text.length : Int) < 1))
  · simp only [D, DT, reduceIte, reduceCtorEq, Nat.reduceEqDiff, Nat.reduceAdd, Nat.reduceLT, Nat.reduceLeDiff, Nat.reduceBEq, Int.reduceLE, Int.reduceLT, Int.reduceEq, Int.reduceNeg, h1]
    cases h2 : (decide ((100 : Int) < (a0.Text.length : Int)))
    · simp only [D, DT, reduceIte, reduceCtorEq, Nat.reduceEqDiff, Nat.reduceAdd, Nat.reduceLT, Nat.reduceLeDiff, Nat.reduceBEq, Int.reduceLE, Int.reduceLT, Int.reduceEq, Int.reduceNeg, h1, h2]
      refine Eq.trans (mandolineref05_Right.l0_ok (fun x => Option.map AV.bool (mandolineref05_Right.a0 x)) a0 ?_ ?_ 0 _ _ (by first | (simp only [D, DT, reduceIte, reduceCtorEq, Nat.reduceEqDiff, Nat.reduceAdd, Nat.reduceLT, Nat.reduceLeDiff, Nat.reduceBEq, Int.reduceLE, Int.reduceLT, Int.reduceEq, Int.reduceNeg, h1, h2] <;> rfl) | rfl) (by first | (simp only [D, DT, reduceIte, reduceCtorEq, Nat.reduceEqDiff, Nat.reduceAdd, Nat.reduceLT, Nat.reduceLeDiff, Nat.reduceBEq, Int.reduceLE, Int.reduceLT, Int.reduceEq, Int.reduceNeg, h1, h2] <;> rfl) | rfl) (by first | (simp only [D, DT, reduceIte, reduceCtorEq, Nat.reduceEqDiff, Nat.reduceAdd, Nat.reduceLT, Nat.reduceLeDiff, Nat.reduceBEq, Int.reduceLE, Int.reduceLT, Int.reduceEq, Int.reduceNeg, h1, h2] <;> rfl) | rfl)) ?_
      · intro e_25 H_25
        simp only [D, DT, reduceIte, reduceCtorEq, Nat.reduceEqDiff, Nat.reduceAdd, Nat.reduceLT, Nat.reduceLeDiff, Nat.reduceBEq, Int.reduceLE, Int.reduceLT, Int.reduceEq, Int.reduceNeg, mandolineref05_Right.a0, h1, h2]
        try rfl
      · intro e_26 H_26 g2_18_26
        simp only [D, DT, reduceIte, reduceCtorEq, Nat.reduceEqDiff, Nat.reduceAdd, Nat.reduceLT, Nat.reduceLeDiff, Nat.reduceBEq, Int.reduceLE, Int.reduceLT, Int.reduceEq, Int.reduceNeg, mandolineref05_Right.a0, h1, h2, g2_18_26]
        try rfl
      exact mb _ _ _
    · simp only [D, DT, reduceIte, reduceCtorEq, Nat.reduceEqDiff, Nat.reduceAdd, Nat.reduceLT, Nat.reduceLeDiff, Nat.reduceBEq, Int.reduceLE, Int.reduceLT, Int.reduceEq, Int.reduceNeg, h1, h2]
      try rfl
  · simp only [D, DT, reduceIte, reduceCtorEq, Nat.reduceEqDiff, Nat.reduceAdd, Nat.reduceLT, Nat.reduceLeDiff, Nat.reduceBEq, Int.reduceLE, Int.reduceLT, Int.reduceEq, Int.reduceNeg, h1]
    try rfl
noncomputable def tag_Weak.f (a0 : api_Tag) (a1 : api_Tag) : Option Bool :=
  (tag_Right.f a0).bind fun x3 =>
  bif x3 then
    (tag_Right.f a1).bind fun x7 =>
    bif x7 then
      some (a0.Text == a1.Text)
    else
      some false
  else
    some false
set_option maxHeartbeats 4000000 in
theorem tag_Weak.ok (a0 : api_Tag) (a1 : api_Tag) : ansL X 18 [(.agg [(.str a0.Text), (.bool a0.Weak)]), (.agg [(.str a1.Text), (.bool a1.Weak)])] = Option.map AV.bool (tag_Weak.f a0 a1) := by
  rw [ansL_run (fd := c18) rfl rfl]
  simp only [D, DT, reduceIte, reduceCtorEq, Nat.reduceEqDiff, Nat.reduceAdd, Nat.reduceLT, Nat.reduceLeDiff, Nat.reduceBEq, Int.reduceLE, Int.reduceLT, Int.reduceEq, Int.reduceNeg, c18, tag_Weak.f]
  have c1 : ansL X 22 [(.agg [(.str a0.Text), (.bool a0.Weak)])] = Option.map AV.bool (tag_Right.f a0) := tag_Right.ok a0
  rcases h2 : tag_Right.f a0 with _ | x3
  · simp only [D, DT, reduceIte, reduceCtorEq, Nat.reduceEqDiff, Nat.reduceAdd, Nat.reduceLT, Nat.reduceLeDiff, Nat.reduceBEq, Int.reduceLE, Int.reduceLT, Int.reduceEq, Int.reduceNeg, c1, h2]
  · simp only [D, DT, reduceIte, reduceCtorEq, Nat.reduceEqDiff, Nat.reduceAdd, Nat.reduceLT, Nat.reduceLeDiff, Nat.reduceBEq, Int.reduceLE, Int.reduceLT, Int.reduceEq, Int.reduceNeg, c1, h2]
    cases h4 : x3
    · simp only [D, DT, reduceIte, reduceCtorEq, Nat.reduceEqDiff, Nat.reduceAdd, Nat.reduceLT, Nat.reduceLeDiff, Nat.reduceBEq, Int.reduceLE, Int.reduceLT, Int.reduceEq, Int.reduceNeg, c1, h2, h4]
      try rfl
    · simp only [D, DT, reduceIte, reduceCtorEq, Nat.reduceEqDiff, Nat.reduceAdd, Nat.reduceLT, Nat.reduceLeDiff, Nat.reduceBEq, Int.reduceLE, Int.reduceLT, Int.reduceEq, Int.reduceNeg, c1, h2, h4]
      have c5 : ansL X 22 [(.agg [(.str a1.Text), (.bool a1.Weak)])] = Option.map AV.bool (tag_Right.f a1) := tag_Right.ok a1
      rcases h6 : tag_Right.f a1 with _ | x7
      · simp only [D, DT, reduceIte, reduceCtorEq, Nat.reduceEqDiff, Nat.reduceAdd, Nat.reduceLT, Nat.reduceLeDiff, Nat.reduceBEq, Int.reduceLE, Int.reduceLT, Int.reduceEq, Int.reduceNeg, c1, h2, h4, c5, h6]
      · simp only [D, DT, reduceIte, reduceCtorEq, Nat.reduceEqDiff, Nat.reduceAdd, Nat.reduceLT, Nat.reduceLeDiff, Nat.reduceBEq, Int.reduceLE, Int.reduceLT, Int.reduceEq, Int.reduceNeg, c1, h2, h4, c5, h6]
        cases h8 : x7
        · simp only [D, DT, reduceIte, reduceCtorEq, Nat.reduceEqDiff, Nat.reduceAdd, Nat.reduceLT, Nat.reduceLeDiff, Nat.reduceBEq, Int.reduceLE, Int.reduceLT, Int.reduceEq, Int.reduceNeg, c1, h2, h4, c5, h6, h8]
          try rfl
        · simp only [D, DT, reduceIte, reduceCtorEq, Nat.reduceEqDiff, Nat.reduceAdd, Nat.reduceLT, Nat.reduceLeDiff, Nat.reduceBEq, Int.reduceLE, Int.reduceLT, Int.reduceEq, Int.reduceNeg, c1, h2, h4, c5, h6, h8]
          try rfl
noncomputable def tag_Strong.f (a0 : api_Tag) (a1 : api_Tag) : Option Bool :=
  (tag_Weak.f a0 a1).bind fun x3 =>
  bif x3 then
    bif a0.Weak then
      some false
    else
      some (!a1.Weak)
  else
    some false
set_option maxHeartbeats 4000000 in
theorem tag_Strong.ok (a0 : api_Tag) (a1 : api_Tag) : ansL X 14 [(.agg [(.str a0.Text), (.bool a0.Weak)]), (.agg [(.str a1.Text), (.bool a1.Weak)])] = Option.map AV.bool (tag_Strong.f a0 a1) := by
  rw [ansL_run (fd := c14) rfl rfl]
  simp only [D, DT, reduceIte, reduceCtorEq, Nat.reduceEqDiff, Nat.reduceAdd, Nat.reduceLT, Nat.reduceLeDiff, Nat.reduceBEq, Int.reduceLE, Int.reduceLT, Int.reduceEq, Int.reduceNeg, c14, tag_Strong.f]
  have c1 : ansL X 18 [(.agg [(.str a0.Text), (.bool a0.Weak)]), (.agg [(.str a1.Text), (.bool a1.Weak)])] = Option.map AV.bool (tag_Weak.f a0 a1) := tag_Weak.ok a0 a1
  rcases h2 : tag_Weak.f a0 a1 with _ | x3
  · simp only [D, DT, reduceIte, reduceCtorEq, Nat.reduceEqDiff, Nat.reduceAdd, Nat.reduceLT, Nat.reduceLeDiff, Nat.reduceBEq, Int.reduceLE, Int.reduceLT, Int.reduceEq, Int.reduceNeg, c1, h2]
  · simp only [D, DT, reduceIte, reduceCtorEq, Nat.reduceEqDiff, Nat.reduceAdd, Nat.reduceLT, Nat.reduceLeDiff, Nat.reduceBEq, Int.reduceLE, Int.reduceLT, Int.reduceEq, Int.reduceNeg, c1, h2]
    cases h4 : x3
    · simp only [D, DT, reduceIte, reduceCtorEq, Nat.reduceEqDiff, Nat.reduceAdd, Nat.reduceLT, Nat.reduceLeDiff, Nat.reduceBEq, Int.reduceLE, Int.reduceLT, Int.reduceEq, Int.reduceNeg, c1, h2, h4]
      try rfl
    · simp only [D, DT, reduceIte, reduceCtorEq, Nat.reduceEqDiff, Nat.reduceAdd, Nat.reduceLT, Nat.reduceLeDiff, Nat.reduceBEq, Int.reduceLE, Int.reduceLT, Int.reduceEq, Int.reduceNeg, c1, h2, h4]
      cases h5 : a0.Weak
      · simp only [D, DT, reduceIte, reduceCtorEq, Nat.reduceEqDiff, Nat.reduceAdd, Nat.reduceLT, Nat.reduceLeDiff, Nat.reduceBEq, Int.reduceLE, Int.reduceLT, Int.reduceEq, Int.reduceNeg, c1, h2, h4, h5]
        try rfl
      · simp only [D, DT, reduceIte, reduceCtorEq, Nat.reduceEqDiff, Nat.reduceAdd, Nat.reduceLT, Nat.reduceLeDiff, Nat.reduceBEq, Int.reduceLE, Int.reduceLT, Int.reduceEq, Int.reduceNeg, c1, h2, h4, h5]
        try rfl
noncomputable def mandolineref05_Weak.f (a0 : api_Tag) (a1 : api_Tag) : Option Bool :=
  (mandolineref05_Right.f a0).bind fun x3 =>
  bif x3 then
    (mandolineref05_Right.f a1).bind fun x7 =>
    bif x7 then
      some (a0.Text == a1.Text)
    else
      some false
  else
    some false
set_option maxHeartbeats 4000000 in
theorem mandolineref05_Weak.ok (a0 : api_Tag) (a1 : api_Tag) : ansL X 19 [(.agg [(.str a0.Text), (.bool a0.Weak)]), (.agg [(.str a1.Text), (.bool a1.Weak)])] = Option.map AV.bool (mandolineref05_Weak.f a0 a1) := by
  rw [ansL_run (fd := c19) rfl rfl]
  simp only [D, DT, reduceIte, reduceCtorEq, Nat.reduceEqDiff, Nat.reduceAdd, Nat.reduceLT, Nat.reduceLeDiff, Nat.reduceBEq, Int.reduceLE, Int.reduceLT, Int.reduceEq, Int.reduceNeg, c19, mandolineref05_Weak.f]
  have c1 : ansL X 10 [(.agg [(.str a0.Text), (.bool a0.Weak)])] = Option.map AV.bool (mandolineref05_Right.f a0) := mandolineref05_Right.ok a0
  rcases h2 : mandolineref05_Right.f a0 with _ | x3
  · simp only [D, DT, reduceIte, reduceCtorEq, Nat.reduceEqDiff, Nat.reduceAdd, Nat.reduceLT, Nat.reduceLeDiff, Nat.reduceBEq, Int.reduceLE, Int.reduceLT, Int.reduceEq, Int.reduceNeg, c1, h2]
  · simp only [D, DT, reduceIte, reduceCtorEq, Nat.reduceEqDiff, Nat.reduceAdd, Nat.reduceLT, Nat.reduceLeDiff, Nat.reduceBEq, Int.reduceLE, Int.reduceLT, Int.reduceEq, Int.reduceNeg, c1, h2]
    cases h4 : x3
    · simp only [D, DT, reduceIte, reduceCtorEq, Nat.reduceEqDiff, Nat.reduceAdd, Nat.reduceLT, Nat.reduceLeDiff, Nat.reduceBEq, Int.reduceLE, Int.reduceLT, Int.reduceEq, Int.reduceNeg, c1, h2, h4]
      try rfl
    · simp only [D, DT, reduceIte, reduceCtorEq, Nat.reduceEqDiff, Nat.reduceAdd, Nat.reduceLT, Nat.reduceLeDiff, Nat.reduceBEq, Int.reduceLE, Int.reduceLT, Int.reduceEq, Int.reduceNeg, c1, h2, h4]
      have c5 : ansL X 10 [(.agg [(.str a1.Text), (.bool a1.Weak)])] = Option.map AV.bool (mandolineref05_Right.f a1) := mandolineref05_Right.ok a1
      rcases h6 : mandolineref05_Right.f a1 with _ | x7
      · simp only [D, DT, reduceIte, reduceCtorEq, Nat.reduceEqDiff, Nat.reduceAdd, Nat.reduceLT, Nat.reduceLeDiff, Nat.reduceBEq, Int.reduceLE, Int.reduceLT, Int.reduceEq, Int.reduceNeg, c1, h2, h4, c5, h6]
      · simp only [D, DT, reduceIte, reduceCtorEq, Nat.reduceEqDiff, Nat.reduceAdd, Nat.reduceLT, Nat.reduceLeDiff, Nat.reduceBEq, Int.reduceLE, Int.reduceLT, Int.reduceEq, Int.reduceNeg, c1, h2, h4, c5, h6]
        cases h8 : x7
        · simp only [D, DT, reduceIte, reduceCtorEq, Nat.reduceEqDiff, Nat.reduceAdd, Nat.reduceLT, Nat.reduceLeDiff, Nat.reduceBEq, Int.reduceLE, Int.reduceLT, Int.reduceEq, Int.reduceNeg, c1, h2, h4, c5, h6, h8]
          try rfl
        · simp only [D, DT, reduceIte, reduceCtorEq, Nat.reduceEqDiff, Nat.reduceAdd, Nat.reduceLT, Nat.reduceLeDiff, Nat.reduceBEq, Int.reduceLE, Int.reduceLT, Int.reduceEq, Int.reduceNeg, c1, h2, h4, c5, h6, h8]
          try rfl
noncomputable def mandolineref05_Strong.f (a0 : api_Tag) (a1 : api_Tag) : Option Bool :=
  (mandolineref05_Weak.f a0 a1).bind fun x3 =>
  bif x3 then
    bif a0.Weak then
      some false
    else
      some (!a1.Weak)
  else
    some false
set_option maxHeartbeats 4000000 in
theorem mandolineref05_Strong.ok (a0 : api_Tag) (a1 : api_Tag) : ansL X 16 [(.agg [(.str a0.Text), (.bool a0.Weak)]), (.agg [(.str a1.Text), (.bool a1.Weak)])] = Option.map AV.bool (mandolineref05_Strong.f a0 a1) := by
  rw [ansL_run (fd := c16) rfl rfl]
  simp only [D, DT, reduceIte, reduceCtorEq, Nat.reduceEqDiff, Nat.reduceAdd, Nat.reduceLT, Nat.reduceLeDiff, Nat.reduceBEq, Int.reduceLE, Int.reduceLT, Int.reduceEq, Int.reduceNeg, c16, mandolineref05_Strong.f]
  have c1 : ansL X 19 [(.agg [(.str a0.Text), (.bool a0.Weak)]), (.agg [(.str a1.Text), (.bool a1.Weak)])] = Option.map AV.bool (mandolineref05_Weak.f a0 a1) := mandolineref05_Weak.ok a0 a1
  rcases h2 : mandolineref05_Weak.f a0 a1 with _ | x3
  · simp only [D, DT, reduceIte, reduceCtorEq, Nat.reduceEqDiff, Nat.reduceAdd, Nat.reduceLT, Nat.reduceLeDiff, Nat.reduceBEq, Int.reduceLE, Int.reduceLT, Int.reduceEq, Int.reduceNeg, c1, h2]
  · simp only [D, DT, reduceIte, reduceCtorEq, Nat.reduceEqDiff, Nat.reduceAdd, Nat.reduceLT, Nat.reduceLeDiff, Nat.reduceBEq, Int.reduceLE, Int.reduceLT, Int.reduceEq, Int.reduceNeg, c1, h2]
    cases h4 : x3
    · simp only [D, DT, reduceIte, reduceCtorEq, Nat.reduceEqDiff, Nat.reduceAdd, Nat.reduceLT, Nat.reduceLeDiff, Nat.reduceBEq, Int.reduceLE, Int.reduceLT, Int.reduceEq, Int.reduceNeg, c1, h2, h4]
      try rfl
    · simp only [D, DT, reduceIte, reduceCtorEq, Nat.reduceEqDiff, Nat.reduceAdd, Nat.reduceLT, Nat.reduceLeDiff, Nat.reduceBEq, Int.reduceLE, Int.reduceLT, Int.reduceEq, Int.reduceNeg, c1, h2, h4]
      cases h5 : a0.Weak
      · simp only [D, DT, reduceIte, reduceCtorEq, Nat.reduceEqDiff, Nat.reduceAdd, Nat.reduceLT, Nat.reduceLeDiff, Nat.reduceBEq, Int.reduceLE, Int.reduceLT, Int.reduceEq, Int.reduceNeg, c1, h2, h4, h5]
        try rfl
      · simp only [D, DT, reduceIte, reduceCtorEq, Nat.reduceEqDiff, Nat.reduceAdd, Nat.reduceLT, Nat.reduceLeDiff, Nat.reduceBEq, Int.reduceLE, Int.reduceLT, Int.reduceEq, Int.reduceNeg, c1, h2, h4, h5]
        try rfl
inductive tag_In.l0X where
  | x0
  | ret (v19_4 : Int)
noncomputable def tag_In.l0B (a0 : (List api_Tag)) (a1 : api_Tag) (v10_8 : Int) : Option (Step (Int) tag_In.l0X) :=
  bif (decide (v10_8 < (a0.length : Int))) then
    (idx a0 v10_8).bind fun x22 =>
    (tag_Weak.f x22 a1).bind fun x25 =>
    bif x25 then
      some (.done (.ret v10_8))
    else
      some (.next (IntKind.i64.wrap (v10_8 + 1)))
  else
    some (.done (.x0))
set_option maxHeartbeats 4000000 in
theorem tag_In.l0_ok {α : Type} {F : Env → Heap → Option α} {K : List Fr} (fin : tag_In.l0X → Option α) (a0 : (List api_Tag)) (a1 : api_Tag)
    (hx0 : ∀ (e : Env) (H : Heap), H [4] = (1, some ⟨false, false, 2, [(.agg [(.str a1.Text), (.bool a1.Weak)])]⟩) → H [7] = (1, some ⟨false, false, 1, [(.fn 18 [])]⟩) → outL X [7, 11] F K e H 0 = fin (.x0))
    (hret : ∀ (v19_4 : Int) (e : Env) (H : Heap), e 4 = (.int .i64 v19_4) → H [4] = (1, some ⟨false, false, 2, [(.agg [(.str a1.Text), (.bool a1.Weak)])]⟩) → H [7] = (1, some ⟨false, false, 1, [(.fn 18 [])]⟩) → F e H = fin (.ret v19_4)) (v10_8 : Int) (e : Env) (H : Heap) (g0_10 : e 0 = (.sl (encL api_Tag.enc a0))) (g1_10 : e 1 = (.fn 21 [(.ptr [7] 1 0 0), (.ptr [4] 1 0 0)])) (g7_10 : e 7 = (.int .i64 (a0.length : Int))) (g8_10 : e 8 = (.int .i64 v10_8)) (k4_10 : H [4] = (1, some ⟨false, false, 2, [(.agg [(.str a1.Text), (.bool a1.Weak)])]⟩)) (k7_10 : H [7] = (1, some ⟨false, false, 1, [(.fn 18 [])]⟩)) :
    runL X [7, 11] F (.c (.loop c23_l0) :: K) e H = (loopL (tag_In.l0B a0 a1) v10_8).bind fin := by
  refine loop_of (R := fun (v10_8 : Int) (e : Env) (H : Heap) => e 0 = (.sl (encL api_Tag.enc a0)) ∧ e 1 = (.fn 21 [(.ptr [7] 1 0 0), (.ptr [4] 1 0 0)]) ∧ e 7 = (.int .i64 (a0.length : Int)) ∧ e 8 = (.int .i64 v10_8) ∧ H [4] = (1, some ⟨false, false, 2, [(.agg [(.str a1.Text), (.bool a1.Weak)])]⟩) ∧ H [7] = (1, some ⟨false, false, 1, [(.fn 18 [])]⟩)) fin ?_ ⟨g0_10, g1_10, g7_10, g8_10, k4_10, k7_10⟩
  clear k7_10 k4_10 g8_10 g7_10 g1_10 g0_10 e H v10_8
  intro n G hn hd s e H hR
  revert hR; revert s; intro v10_8 hR
  obtain ⟨g0_10, g1_10, g7_10, g8_10, k4_10, k7_10⟩ := hR
  simp only [D, DT, reduceIte, reduceCtorEq, Nat.reduceEqDiff, Nat.reduceAdd, Nat.reduceLT, Nat.reduceLeDiff, Nat.reduceBEq, Int.reduceLE, Int.reduceLT, Int.reduceEq, Int.reduceNeg, tag_In.l0B, g0_10, g1_10, g7_10, g8_10, k4_10, k7_10, c23_l0]
  cases h20 : (decide (v10_8 < (a0.length : Int)))
  · simp only [D, DT, reduceIte, reduceCtorEq, Nat.reduceEqDiff, Nat.reduceAdd, Nat.reduceLT, Nat.reduceLeDiff, Nat.reduceBEq, Int.reduceLE, Int.reduceLT, Int.reduceEq, Int.reduceNeg, g0_10, g1_10, g7_10, g8_10, k4_10, k7_10, c23_l0, h20]
    exact (hx0 _ _ (by first | (simp only [D, DT, reduceIte, reduceCtorEq, Nat.reduceEqDiff, Nat.reduceAdd, Nat.reduceLT, Nat.reduceLeDiff, Nat.reduceBEq, Int.reduceLE, Int.reduceLT, Int.reduceEq, Int.reduceNeg, g0_10, g1_10, g7_10, g8_10, k4_10, k7_10, c23_l0, h20] <;> rfl) | rfl) (by first | (simp only [D, DT, reduceIte, reduceCtorEq, Nat.reduceEqDiff, Nat.reduceAdd, Nat.reduceLT, Nat.reduceLeDiff, Nat.reduceBEq, Int.reduceLE, Int.reduceLT, Int.reduceEq, Int.reduceNeg, g0_10, g1_10, g7_10, g8_10, k4_10, k7_10, c23_l0, h20] <;> rfl) | rfl)).trans (hd _).symm
  · simp only [D, DT, reduceIte, reduceCtorEq, Nat.reduceEqDiff, Nat.reduceAdd, Nat.reduceLT, Nat.reduceLeDiff, Nat.reduceBEq, Int.reduceLE, Int.reduceLT, Int.reduceEq, Int.reduceNeg, g0_10, g1_10, g7_10, g8_10, k4_10, k7_10, c23_l0, h20]
    rcases h21 : idx a0 v10_8 with _ | x22
    · simp only [D, DT, reduceIte, reduceCtorEq, Nat.reduceEqDiff, Nat.reduceAdd, Nat.reduceLT, Nat.reduceLeDiff, Nat.reduceBEq, Int.reduceLE, Int.reduceLT, Int.reduceEq, Int.reduceNeg, g0_10, g1_10, g7_10, g8_10, k4_10, k7_10, c23_l0, h20, h21]
    · simp only [D, DT, reduceIte, reduceCtorEq, Nat.reduceEqDiff, Nat.reduceAdd, Nat.reduceLT, Nat.reduceLeDiff, Nat.reduceBEq, Int.reduceLE, Int.reduceLT, Int.reduceEq, Int.reduceNeg, g0_10, g1_10, g7_10, g8_10, k4_10, k7_10, c23_l0, h20, h21]
      rw [call_in (fd := c21) rfl]
      simp only [D, DT, reduceIte, reduceCtorEq, Nat.reduceEqDiff, Nat.reduceAdd, Nat.reduceLT, Nat.reduceLeDiff, Nat.reduceBEq, Int.reduceLE, Int.reduceLT, Int.reduceEq, Int.reduceNeg, c21, g0_10, g1_10, g7_10, g8_10, k4_10, k7_10, c23_l0, h20, h21]
      have c23 : ansL X 18 [(.agg [(.str x22.Text), (.bool x22.Weak)]), (.agg [(.str a1.Text), (.bool a1.Weak)])] = Option.map AV.bool (tag_Weak.f x22 a1) := tag_Weak.ok x22 a1
      rcases h24 : tag_Weak.f x22 a1 with _ | x25
      · simp only [D, DT, reduceIte, reduceCtorEq, Nat.reduceEqDiff, Nat.reduceAdd, Nat.reduceLT, Nat.reduceLeDiff, Nat.reduceBEq, Int.reduceLE, Int.reduceLT, Int.reduceEq, Int.reduceNeg, g0_10, g1_10, g7_10, g8_10, k4_10, k7_10, c23_l0, h20, h21, c23, h24]
      · simp only [D, DT, reduceIte, reduceCtorEq, Nat.reduceEqDiff, Nat.reduceAdd, Nat.reduceLT, Nat.reduceLeDiff, Nat.reduceBEq, Int.reduceLE, Int.reduceLT, Int.reduceEq, Int.reduceNeg, g0_10, g1_10, g7_10, g8_10, k4_10, k7_10, c23_l0, h20, h21, c23, h24]
        cases h26 : x25
        · simp only [D, DT, reduceIte, reduceCtorEq, Nat.reduceEqDiff, Nat.reduceAdd, Nat.reduceLT, Nat.reduceLeDiff, Nat.reduceBEq, Int.reduceLE, Int.reduceLT, Int.reduceEq, Int.reduceNeg, g0_10, g1_10, g7_10, g8_10, k4_10, k7_10, c23_l0, h20, h21, c23, h24, h26]
          exact hn _ _ _ ⟨(by first | (simp only [D, DT, reduceIte, reduceCtorEq, Nat.reduceEqDiff, Nat.reduceAdd, Nat.reduceLT, Nat.reduceLeDiff, Nat.reduceBEq, Int.reduceLE, Int.reduceLT, Int.reduceEq, Int.reduceNeg, g0_10, g1_10, g7_10, g8_10, k4_10, k7_10, c23_l0, h20, h21, c23, h24, h26] <;> rfl) | rfl), (by first | (simp only [D, DT, reduceIte, reduceCtorEq, Nat.reduceEqDiff, Nat.reduceAdd, Nat.reduceLT, Nat.reduceLeDiff, Nat.reduceBEq, Int.reduceLE, Int.reduceLT, Int.reduceEq, Int.reduceNeg, g0_10, g1_10, g7_10, g8_10, k4_10, k7_10, c23_l0, h20, h21, c23, h24, h26] <;> rfl) | rfl), (by first | (simp only [D, DT, reduceIte, reduceCtorEq, Nat.reduceEqDiff, Nat.reduceAdd, Nat.reduceLT, Nat.reduceLeDiff, Nat.reduceBEq, Int.reduceLE, Int.reduceLT, Int.reduceEq, Int.reduceNeg, g0_10, g1_10, g7_10, g8_10, k4_10, k7_10, c23_l0, h20, h21, c23, h24, h26] <;> rfl) | rfl), (by first | (simp only [D, DT, reduceIte, reduceCtorEq, Nat.reduceEqDiff, Nat.reduceAdd, Nat.reduceLT, Nat.reduceLeDiff, Nat.reduceBEq, Int.reduceLE, Int.reduceLT, Int.reduceEq, Int.reduceNeg, g0_10, g1_10, g7_10, g8_10, k4_10, k7_10, c23_l0, h20, h21, c23, h24, h26] <;> rfl) | rfl), (by first | (simp only [D, DT, reduceIte, reduceCtorEq, Nat.reduceEqDiff, Nat.reduceAdd, Nat.reduceLT, Nat.reduceLeDiff, Nat.reduceBEq, Int.reduceLE, Int.reduceLT, Int.reduceEq, Int.reduceNeg, g0_10, g1_10, g7_10, g8_10, k4_10, k7_10, c23_l0, h20, h21, c23, h24, h26] <;> rfl) | rfl), (by first | (simp only [D, DT, reduceIte, reduceCtorEq, Nat.reduceEqDiff, Nat.reduceAdd, Nat.reduceLT, Nat.reduceLeDiff, Nat.reduceBEq, Int.reduceLE, Int.reduceLT, Int.reduceEq, Int.reduceNeg, g0_10, g1_10, g7_10, g8_10, k4_10, k7_10, c23_l0, h20, h21, c23, h24, h26] <;> rfl) | rfl)⟩
        · simp only [D, DT, reduceIte, reduceCtorEq, Nat.reduceEqDiff, Nat.reduceAdd, Nat.reduceLT, Nat.reduceLeDiff, Nat.reduceBEq, Int.reduceLE, Int.reduceLT, Int.reduceEq, Int.reduceNeg, g0_10, g1_10, g7_10, g8_10, k4_10, k7_10, c23_l0, h20, h21, c23, h24, h26]
          exact (hret v10_8 _ _ (by first | (simp only [D, DT, reduceIte, reduceCtorEq, Nat.reduceEqDiff, Nat.reduceAdd, Nat.reduceLT, Nat.reduceLeDiff, Nat.reduceBEq, Int.reduceLE, Int.reduceLT, Int.reduceEq, Int.reduceNeg, g0_10, g1_10, g7_10, g8_10, k4_10, k7_10, c23_l0, h20, h21, c23, h24, h26] <;> rfl) | rfl) (by first | (simp only [D, DT, reduceIte, reduceCtorEq, Nat.reduceEqDiff, Nat.reduceAdd, Nat.reduceLT, Nat.reduceLeDiff, Nat.reduceBEq, Int.reduceLE, Int.reduceLT, Int.reduceEq, Int.reduceNeg, g0_10, g1_10, g7_10, g8_10, k4_10, k7_10, c23_l0, h20, h21, c23, h24, h26] <;> rfl) | rfl) (by first | (simp only [D, DT, reduceIte, reduceCtorEq, Nat.reduceEqDiff, Nat.reduceAdd, Nat.reduceLT, Nat.reduceLeDiff, Nat.reduceBEq, Int.reduceLE, Int.reduceLT, Int.reduceEq, Int.reduceNeg, g0_10, g1_10, g7_10, g8_10, k4_10, k7_10, c23_l0, h20, h21, c23, h24, h26] <;> rfl) | rfl)).trans (hd _).symm
noncomputable def tag_In.a0 : tag_In.l0X → Option Bool
  | .x0 =>
    some false
  | .ret v19_4 =>
    some (decide ((0 : Int) ≤ v19_4))
inductive tag_In.l1X where
  | x0
  | ret (v46_4 : Int)
noncomputable def tag_In.l1B (a0 : (List api_Tag)) (a1 : api_Tag) (v37_8 : Int) : Option (Step (Int) tag_In.l1X) :=
  bif (decide (v37_8 < (a0.length : Int))) then
    (idx a0 v37_8).bind fun x49 =>
    (tag_Strong.f x49 a1).bind fun x52 =>
    bif x52 then
      some (.done (.ret v37_8))
    else
      some (.next (IntKind.i64.wrap (v37_8 + 1)))
  else
    some (.done (.x0))
set_option maxHeartbeats 4000000 in
theorem tag_In.l1_ok {α : Type} {F : Env → Heap → Option α} {K : List Fr} (fin : tag_In.l1X → Option α) (a0 : (List api_Tag)) (a1 : api_Tag)
    (hx0 : ∀ (e : Env) (H : Heap), H [4] = (1, some ⟨false, false, 2, [(.agg [(.str a1.Text), (.bool a1.Weak)])]⟩) → H [7] = (1, some ⟨false, false, 1, [(.fn 14 [])]⟩) → outL X [7, 11] F K e H 0 = fin (.x0))
    (hret : ∀ (v46_4 : Int) (e : Env) (H : Heap), e 4 = (.int .i64 v46_4) → H [4] = (1, some ⟨false, false, 2, [(.agg [(.str a1.Text), (.bool a1.Weak)])]⟩) → H [7] = (1, some ⟨false, false, 1, [(.fn 14 [])]⟩) → F e H = fin (.ret v46_4)) (v37_8 : Int) (e : Env) (H : Heap) (g0_37 : e 0 = (.sl (encL api_Tag.enc a0))) (g1_37 : e 1 = (.fn 21 [(.ptr [7] 1 0 0), (.ptr [4] 1 0 0)])) (g7_37 : e 7 = (.int .i64 (a0.length : Int))) (g8_37 : e 8 = (.int .i64 v37_8)) (k4_37 : H [4] = (1, some ⟨false, false, 2, [(.agg [(.str a1.Text), (.bool a1.Weak)])]⟩)) (k7_37 : H [7] = (1, some ⟨false, false, 1, [(.fn 14 [])]⟩)) :
    runL X [7, 11] F (.c (.loop c23_l0) :: K) e H = (loopL (tag_In.l1B a0 a1) v37_8).bind fin := by
  refine loop_of (R := fun (v37_8 : Int) (e : Env) (H : Heap) => e 0 = (.sl (encL api_Tag.enc a0)) ∧ e 1 = (.fn 21 [(.ptr [7] 1 0 0), (.ptr [4] 1 0 0)]) ∧ e 7 = (.int .i64 (a0.length : Int)) ∧ e 8 = (.int .i64 v37_8) ∧ H [4] = (1, some ⟨false, false, 2, [(.agg [(.str a1.Text), (.bool a1.Weak)])]⟩) ∧ H [7] = (1, some ⟨false, false, 1, [(.fn 14 [])]⟩)) fin ?_ ⟨g0_37, g1_37, g7_37, g8_37, k4_37, k7_37⟩
  clear k7_37 k4_37 g8_37 g7_37 g1_37 g0_37 e H v37_8
  intro n G hn hd s e H hR
  revert hR; revert s; intro v37_8 hR
  obtain ⟨g0_37, g1_37, g7_37, g8_37, k4_37, k7_37⟩ := hR
  simp only [D, DT, reduceIte, reduceCtorEq, Nat.reduceEqDiff, Nat.reduceAdd, Nat.reduceLT, Nat.reduceLeDiff, Nat.reduceBEq, Int.reduceLE, Int.reduceLT, Int.reduceEq, Int.reduceNeg, tag_In.l1B, g0_37, g1_37, g7_37, g8_37, k4_37, k7_37, c23_l0]
  cases h47 : (decide (v37_8 < (a0.length : Int)))
  · simp only [D, DT, reduceIte, reduceCtorEq, Nat.reduceEqDiff, Nat.reduceAdd, Nat.reduceLT, Nat.reduceLeDiff, Nat.reduceBEq, Int.reduceLE, Int.reduceLT, Int.reduceEq, Int.reduceNeg, g0_37, g1_37, g7_37, g8_37, k4_37, k7_37, c23_l0, h47]
    exact (hx0 _ _ (by first | (simp only [D, DT, reduceIte, reduceCtorEq, Nat.reduceEqDiff, Nat.reduceAdd, Nat.reduceLT, Nat.reduceLeDiff, Nat.reduceBEq, Int.reduceLE, Int.reduceLT, Int.reduceEq, Int.reduceNeg, g0_37, g1_37, g7_37, g8_37, k4_37, k7_37, c23_l0, h47] <;> rfl) | rfl) (by first | (simp only [D, DT, reduceIte, reduceCtorEq, Nat.reduceEqDiff, Nat.reduceAdd, Nat.reduceLT, Nat.reduceLeDiff, Nat.reduceBEq, Int.reduceLE, Int.reduceLT, Int.reduceEq, Int.reduceNeg, g0_37, g1_37, g7_37, g8_37, k4_37, k7_37, c23_l0, h47] <;> rfl) | rfl)).trans (hd _).symm
  · simp only [D, DT, reduceIte, reduceCtorEq, Nat.reduceEqDiff, Nat.reduceAdd, Nat.reduceLT, Nat.reduceLeDiff, Nat.reduceBEq, Int.reduceLE, Int.reduceLT, Int.reduceEq, Int.reduceNeg, g0_37, g1_37, g7_37, g8_37, k4_37, k7_37, c23_l0, h47]
    rcases h48 : idx a0 v37_8 with _ | x49
    · simp only [D, DT, reduceIte, reduceCtorEq, Nat.reduceEqDiff, Nat.reduceAdd, Nat.reduceLT, Nat.reduceLeDiff, Nat.reduceBEq, Int.reduceLE, Int.reduceLT, Int.reduceEq, Int.reduceNeg, g0_37, g1_37, g7_37, g8_37, k4_37, k7_37, c23_l0, h47, h48]
    · simp only [D, DT, reduceIte, reduceCtorEq, Nat.reduceEqDiff, Nat.reduceAdd, Nat.reduceLT, Nat.reduceLeDiff, Nat.reduceBEq, Int.reduceLE, Int.reduceLT, Int.reduceEq, Int.reduceNeg, g0_37, g1_37, g7_37, g8_37, k4_37, k7_37, c23_l0, h47, h48]
      rw [call_in (fd := c21) rfl]
      simp only [D, DT, reduceIte, reduceCtorEq, Nat.reduceEqDiff, Nat.reduceAdd, Nat.reduceLT, Nat.reduceLeDiff, Nat.reduceBEq, Int.reduceLE, Int.reduceLT, Int.reduceEq, Int.reduceNeg, c21, g0_37, g1_37, g7_37, g8_37, k4_37, k7_37, c23_l0, h47, h48]
      have c50 : ansL X 14 [(.agg [(.str x49.Text), (.bool x49.Weak)]), (.agg [(.str a1.Text), (.bool a1.Weak)])] = Option.map AV.bool (tag_Strong.f x49 a1) := tag_Strong.ok x49 a1
      rcases h51 : tag_Strong.f x49 a1 with _ | x52
      · simp only [D, DT, reduceIte, reduceCtorEq, Nat.reduceEqDiff, Nat.reduceAdd, Nat.reduceLT, Nat.reduceLeDiff, Nat.reduceBEq, Int.reduceLE, Int.reduceLT, Int.reduceEq, Int.reduceNeg, g0_37, g1_37, g7_37, g8_37, k4_37, k7_37, c23_l0, h47, h48, c50, h51]
      · simp only [D, DT, reduceIte, reduceCtorEq, Nat.reduceEqDiff, Nat.reduceAdd, Nat.reduceLT, Nat.reduceLeDiff, Nat.reduceBEq, Int.reduceLE, Int.reduceLT, Int.reduceEq, Int.reduceNeg, g0_37, g1_37, g7_37, g8_37, k4_37, k7_37, c23_l0, h47, h48, c50, h51]
        cases h53 : x52
        · simp only [D, DT, reduceIte, reduceCtorEq, Nat.reduceEqDiff, Nat.reduceAdd, Nat.reduceLT, Nat.reduceLeDiff, Nat.reduceBEq, Int.reduceLE, Int.reduceLT, Int.reduceEq, Int.reduceNeg, g0_37, g1_37, g7_37, g8_37, k4_37, k7_37, c23_l0, h47, h48, c50, h51, h53]
          exact hn _ _ _ ⟨(by first | (simp only [D, DT, reduceIte, reduceCtorEq, Nat.reduceEqDiff, Nat.reduceAdd, Nat.reduceLT, Nat.reduceLeDiff, Nat.reduceBEq, Int.reduceLE, Int.reduceLT, Int.reduceEq, Int.reduceNeg, g0_37, g1_37, g7_37, g8_37, k4_37, k7_37, c23_l0, h47, h48, c50, h51, h53] <;> rfl) | rfl), (by first | (simp only [D, DT, reduceIte, reduceCtorEq, Nat.reduceEqDiff, Nat.reduceAdd, Nat.reduceLT, Nat.reduceLeDiff, Nat.reduceBEq, Int.reduceLE, Int.reduceLT, Int.reduceEq, Int.reduceNeg, g0_37, g1_37, g7_37, g8_37, k4_37, k7_37, c23_l0, h47, h48, c50, h51, h53] <;> rfl) | rfl), (by first | (simp only [D, DT, reduceIte, reduceCtorEq, Nat.reduceEqDiff, Nat.reduceAdd, Nat.reduceLT, Nat.reduceLeDiff, Nat.reduceBEq, Int.reduceLE, Int.reduceLT, Int.reduceEq, Int.reduceNeg, g0_37, g1_37, g7_37, g8_37, k4_37, k7_37, c23_l0, h47, h48, c50, h51, h53] <;> rfl) | rfl), (by first | (simp only [D, DT, reduceIte, reduceCtorEq, Nat.reduceEqDiff, Nat.reduceAdd, Nat.reduceLT, Nat.reduceLeDiff, Nat.reduceBEq, Int.reduceLE, Int.reduceLT, Int.reduceEq, Int.reduceNeg, g0_37, g1_37, g7_37, g8_37, k4_37, k7_37, c23_l0, h47, h48, c50, h51, h53] <;> rfl) | rfl), (by first | (simp only [D, DT, reduceIte, reduceCtorEq, Nat.reduceEqDiff, Nat.reduceAdd, Nat.reduceLT, Nat.reduceLeDiff, Nat.reduceBEq, Int.reduceLE, Int.reduceLT, Int.reduceEq, Int.reduceNeg, g0_37, g1_37, g7_37, g8_37, k4_37, k7_37, c23_l0, h47, h48, c50, h51, h53] <;> rfl) | rfl), (by first | (simp only [D, DT, reduceIte, reduceCtorEq, Nat.reduceEqDiff, Nat.reduceAdd, Nat.reduceLT, Nat.reduceLeDiff, Nat.reduceBEq, Int.reduceLE, Int.reduceLT, Int.reduceEq, Int.reduceNeg, g0_37, g1_37, g7_37, g8_37, k4_37, k7_37, c23_l0, h47, h48, c50, h51, h53] <;> rfl) | rfl)⟩
        · simp only [D, DT, reduceIte, reduceCtorEq, Nat.reduceEqDiff, Nat.reduceAdd, Nat.reduceLT, Nat.reduceLeDiff, Nat.reduceBEq, Int.reduceLE, Int.reduceLT, Int.reduceEq, Int.reduceNeg, g0_37, g1_37, g7_37, g8_37, k4_37, k7_37, c23_l0, h47, h48, c50, h51, h53]
          exact (hret v37_8 _ _ (by first | (simp only [D, DT, reduceIte, reduceCtorEq, Nat.reduceEqDiff, Nat.reduceAdd, Nat.reduceLT, Nat.reduceLeDiff, Nat.reduceBEq, Int.reduceLE, Int.reduceLT, Int.reduceEq, Int.reduceNeg, g0_37, g1_37, g7_37, g8_37, k4_37, k7_37, c23_l0, h47, h48, c50, h51, h53] <;> rfl) | rfl) (by first | (simp only [D, DT, reduceIte, reduceCtorEq, Nat.reduceEqDiff, Nat.reduceAdd, Nat.reduceLT, Nat.reduceLeDiff, Nat.reduceBEq, Int.reduceLE, Int.reduceLT, Int.reduceEq, Int.reduceNeg, g0_37, g1_37, g7_37, g8_37, k4_37, k7_37, c23_l0, h47, h48, c50, h51, h53] <;> rfl) | rfl) (by first | (simp only [D, DT, reduceIte, reduceCtorEq, Nat.reduceEqDiff, Nat.reduceAdd, Nat.reduceLT, Nat.reduceLeDiff, Nat.reduceBEq, Int.reduceLE, Int.reduceLT, Int.reduceEq, Int.reduceNeg, g0_37, g1_37, g7_37, g8_37, k4_37, k7_37, c23_l0, h47, h48, c50, h51, h53] <;> rfl) | rfl)).trans (hd _).symm
noncomputable def tag_In.a1 : tag_In.l1X → Option Bool
  | .x0 =>
    some false
  | .ret v46_4 =>
    some (decide ((0 : Int) ≤ v46_4))
noncomputable def tag_In.f (a0 : (List api_Tag)) (a1 : api_Tag) (a2 : Bool) : Option Bool :=
  bif a2 then
    (loopL (tag_In.l1B a0 a1) 0).bind (tag_In.a1)
  else
    (loopL (tag_In.l0B a0 a1) 0).bind (tag_In.a0)
set_option maxHeartbeats 4000000 in
theorem tag_In.ok (a0 : (List api_Tag)) (a1 : api_Tag) (a2 : Bool) : ansL X 17 [(.sl (encL api_Tag.enc a0)), (.agg [(.str a1.Text), (.bool a1.Weak)]), (.bool a2)] = Option.map AV.bool (tag_In.f a0 a1 a2) := by
  rw [ansL_run (fd := c17) rfl rfl]
  simp only [D, DT, reduceIte, reduceCtorEq, Nat.reduceEqDiff, Nat.reduceAdd, Nat.reduceLT, Nat.reduceLeDiff, Nat.reduceBEq, Int.reduceLE, Int.reduceLT, Int.reduceEq, Int.reduceNeg, c17, tag_In.f]
  cases h1 : a2
  · simp only [D, DT, reduceIte, reduceCtorEq, Nat.reduceEqDiff, Nat.reduceAdd, Nat.reduceLT, Nat.reduceLeDiff, Nat.reduceBEq, Int.reduceLE, Int.reduceLT, Int.reduceEq, Int.reduceNeg, h1]
    rw [call_in (fd := c20) rfl]
    simp only [D, DT, reduceIte, reduceCtorEq, Nat.reduceEqDiff, Nat.reduceAdd, Nat.reduceLT, Nat.reduceLeDiff, Nat.reduceBEq, Int.reduceLE, Int.reduceLT, Int.reduceEq, Int.reduceNeg, c20, h1]
    rw [call_in (fd := c23) rfl]
    simp only [D, DT, reduceIte, reduceCtorEq, Nat.reduceEqDiff, Nat.reduceAdd, Nat.reduceLT, Nat.reduceLeDiff, Nat.reduceBEq, Int.reduceLE, Int.reduceLT, Int.reduceEq, Int.reduceNeg, c23, h1]
    refine Eq.trans (tag_In.l0_ok (fun x => Option.map AV.bool (tag_In.a0 x)) a0 a1 ?_ ?_ 0 _ _ (by first | (simp only [D, DT, reduceIte, reduceCtorEq, Nat.reduceEqDiff, Nat.reduceAdd, Nat.reduceLT, Nat.reduceLeDiff, Nat.reduceBEq, Int.reduceLE, Int.reduceLT, Int.reduceEq, Int.reduceNeg, h1] <;> rfl) | rfl) (by first | (simp only [D, DT, reduceIte, reduceCtorEq, Nat.reduceEqDiff, Nat.reduceAdd, Nat.reduceLT, Nat.reduceLeDiff, Nat.reduceBEq, Int.reduceLE, Int.reduceLT, Int.reduceEq, Int.reduceNeg, h1] <;> rfl) | rfl) (by first | (simp only [D, DT, reduceIte, reduceCtorEq, Nat.reduceEqDiff, Nat.reduceAdd, Nat.reduceLT, Nat.reduceLeDiff, Nat.reduceBEq, Int.reduceLE, Int.reduceLT, Int.reduceEq, Int.reduceNeg, h1] <;> rfl) | rfl) (by first | (simp only [D, DT, reduceIte, reduceCtorEq, Nat.reduceEqDiff, Nat.reduceAdd, Nat.reduceLT, Nat.reduceLeDiff, Nat.reduceBEq, Int.reduceLE, Int.reduceLT, Int.reduceEq, Int.reduceNeg, h1] <;> rfl) | rfl) (by first | (simp only [D, DT, reduceIte, reduceCtorEq, Nat.reduceEqDiff, Nat.reduceAdd, Nat.reduceLT, Nat.reduceLeDiff, Nat.reduceBEq, Int.reduceLE, Int.reduceLT, Int.reduceEq, Int.reduceNeg, h1] <;> rfl) | rfl) (by first | (simp only [D, DT, reduceIte, reduceCtorEq, Nat.reduceEqDiff, Nat.reduceAdd, Nat.reduceLT, Nat.reduceLeDiff, Nat.reduceBEq, Int.reduceLE, Int.reduceLT, Int.reduceEq, Int.reduceNeg, h1] <;> rfl) | rfl)) ?_
    · intro e_27 H_27 k4_18_27 k7_18_27
      simp only [D, DT, reduceIte, reduceCtorEq, Nat.reduceEqDiff, Nat.reduceAdd, Nat.reduceLT, Nat.reduceLeDiff, Nat.reduceBEq, Int.reduceLE, Int.reduceLT, Int.reduceEq, Int.reduceNeg, tag_In.a0, h1, k4_18_27, k7_18_27]
      try rfl
    · intro v19_4 e_28 H_28 g4_19_28 k4_19_28 k7_19_28
      simp only [D, DT, reduceIte, reduceCtorEq, Nat.reduceEqDiff, Nat.reduceAdd, Nat.reduceLT, Nat.reduceLeDiff, Nat.reduceBEq, Int.reduceLE, Int.reduceLT, Int.reduceEq, Int.reduceNeg, tag_In.a0, h1, g4_19_28, k4_19_28, k7_19_28]
      try rfl
    exact mb _ _ _
  · simp only [D, DT, reduceIte, reduceCtorEq, Nat.reduceEqDiff, Nat.reduceAdd, Nat.reduceLT, Nat.reduceLeDiff, Nat.reduceBEq, Int.reduceLE, Int.reduceLT, Int.reduceEq, Int.reduceNeg, h1]
    rw [call_in (fd := c20) rfl]
    simp only [D, DT, reduceIte, reduceCtorEq, Nat.reduceEqDiff, Nat.reduceAdd, Nat.reduceLT, Nat.reduceLeDiff, Nat.reduceBEq, Int.reduceLE, Int.reduceLT, Int.reduceEq, Int.reduceNeg, c20, h1]
    rw [call_in (fd := c23) rfl]
    simp only [D, DT, reduceIte, reduceCtorEq, Nat.reduceEqDiff, Nat.reduceAdd, Nat.reduceLT, Nat.reduceLeDiff, Nat.reduceBEq, Int.reduceLE, Int.reduceLT, Int.reduceEq, Int.reduceNeg, c23, h1]
    refine Eq.trans (tag_In.l1_ok (fun x => Option.map AV.bool (tag_In.a1 x)) a0 a1 ?_ ?_ 0 _ _ (by first | (simp only [D, DT, reduceIte, reduceCtorEq, Nat.reduceEqDiff, Nat.reduceAdd, Nat.reduceLT, Nat.reduceLeDiff, Nat.reduceBEq, Int.reduceLE, Int.reduceLT, Int.reduceEq, Int.reduceNeg, h1] <;> rfl) | rfl) (by first | (simp only [D, DT, reduceIte, reduceCtorEq, Nat.reduceEqDiff, Nat.reduceAdd, Nat.reduceLT, Nat.reduceLeDiff, Nat.reduceBEq, Int.reduceLE, Int.reduceLT, Int.reduceEq, Int.reduceNeg, h1] <;> rfl) | rfl) (by first | (simp only [D, DT, reduceIte, reduceCtorEq, Nat.reduceEqDiff, Nat.reduceAdd, Nat.reduceLT, Nat.reduceLeDiff, Nat.reduceBEq, Int.reduceLE, Int.reduceLT, Int.reduceEq, Int.reduceNeg, h1] <;> rfl) | rfl) (by first | (simp only [D, DT, reduceIte, reduceCtorEq, Nat.reduceEqDiff, Nat.reduceAdd, Nat.reduceLT, Nat.reduceLeDiff, Nat.reduceBEq, Int.reduceLE, Int.reduceLT, Int.reduceEq, Int.reduceNeg, h1] <;> rfl) | rfl) (by first | (simp only [D, DT, reduceIte, reduceCtorEq, Nat.reduceEqDiff, Nat.reduceAdd, Nat.reduceLT, Nat.reduceLeDiff, Nat.reduceBEq, Int.reduceLE, Int.reduceLT, Int.reduceEq, Int.reduceNeg, h1] <;> rfl) | rfl) (by first | (simp only [D, DT, reduceIte, reduceCtorEq, Nat.reduceEqDiff, Nat.reduceAdd, Nat.reduceLT, Nat.reduceLeDiff, Nat.reduceBEq, Int.reduceLE, Int.reduceLT, Int.reduceEq, Int.reduceNeg, h1] <;> rfl) | rfl)) ?_
    · intro e_54 H_54 k4_45_54 k7_45_54
      simp only [D, DT, reduceIte, reduceCtorEq, Nat.reduceEqDiff, Nat.reduceAdd, Nat.reduceLT, Nat.reduceLeDiff, Nat.reduceBEq, Int.reduceLE, Int.reduceLT, Int.reduceEq, Int.reduceNeg, tag_In.a1, h1, k4_45_54, k7_45_54]
      try rfl
    · intro v46_4 e_55 H_55 g4_46_55 k4_46_55 k7_46_55
      simp only [D, DT, reduceIte, reduceCtorEq, Nat.reduceEqDiff, Nat.reduceAdd, Nat.reduceLT, Nat.reduceLeDiff, Nat.reduceBEq, Int.reduceLE, Int.reduceLT, Int.reduceEq, Int.reduceNeg, tag_In.a1, h1, g4_46_55, k4_46_55, k7_46_55]
      try rfl
    exact mb _ _ _
inductive mandolineref08_one.l0X where
  | x0
  | ret
noncomputable def mandolineref08_one.l0B (a0 : (List api_Tag)) (a1 : api_Tag) (v14_2 : Bool) (v14_11 : Int) : Option (Step (Bool × Int) mandolineref08_one.l0X) :=
  bif (decide (v14_11 < (a0.length : Int))) then
    (idx a0 v14_11).bind fun x31 =>
    bif v14_2 then
      (mandolineref05_Strong.f x31 a1).bind fun x39 =>
      bif x39 then
        some (.done (.ret))
      else
        some (.next (true, (IntKind.i64.wrap (v14_11 + 1))))
    else
      (mandolineref05_Weak.f x31 a1).bind fun x35 =>
      bif x35 then
        some (.done (.ret))
      else
        some (.next (false, (IntKind.i64.wrap (v14_11 + 1))))
  else
    some (.done (.x0))
set_option maxHeartbeats 4000000 in
theorem mandolineref08_one.l0_ok {α : Type} {F : Env → Heap → Option α} {K : List Fr} (fin : mandolineref08_one.l0X → Option α) (a0 : (List api_Tag)) (a1 : api_Tag)
    (hx0 : ∀ (e : Env) (H : Heap), outL X [] F K e H 0 = fin (.x0))
    (hret : ∀ (e : Env) (H : Heap), e 6 = (.bool true) → F e H = fin (.ret)) (v14_2 : Bool) (v14_11 : Int) (e : Env) (H : Heap) (g2_14 : e 2 = (.bool v14_2)) (g4_14 : e 4 = (.ptr [4] 1 0 0)) (g9_14 : e 9 = (.sl (encL api_Tag.enc a0))) (g10_14 : e 10 = (.int .i64 (a0.length : Int))) (g11_14 : e 11 = (.int .i64 v14_11)) (k4_14 : H [4] = (1, some ⟨false, false, 2, [(.agg [(.str a1.Text), (.bool a1.Weak)])]⟩)) :
    runL X [] F (.c (.loop c15_l0) :: K) e H = (loopL (fun (s : Bool × Int) => mandolineref08_one.l0B a0 a1 s.1 s.2) (v14_2, v14_11)).bind fin := by
  refine loop_of (R := fun (s : Bool × Int) (e : Env) (H : Heap) => (fun (v14_2 : Bool) (v14_11 : Int) => e 2 = (.bool v14_2) ∧ e 4 = (.ptr [4] 1 0 0) ∧ e 9 = (.sl (encL api_Tag.enc a0)) ∧ e 10 = (.int .i64 (a0.length : Int)) ∧ e 11 = (.int .i64 v14_11) ∧ H [4] = (1, some ⟨false, false, 2, [(.agg [(.str a1.Text), (.bool a1.Weak)])]⟩)) s.1 s.2) fin ?_ ⟨g2_14, g4_14, g9_14, g10_14, g11_14, k4_14⟩
  clear k4_14 g11_14 g10_14 g9_14 g4_14 g2_14 e H v14_11 v14_2
  intro n G hn hd s e H hR
  obtain ⟨v14_2, v14_11⟩ := s
  obtain ⟨g2_14, g4_14, g9_14, g10_14, g11_14, k4_14⟩ := hR
  simp only [D, DT, reduceIte, reduceCtorEq, Nat.reduceEqDiff, Nat.reduceAdd, Nat.reduceLT, Nat.reduceLeDiff, Nat.reduceBEq, Int.reduceLE, Int.reduceLT, Int.reduceEq, Int.reduceNeg, mandolineref08_one.l0B, g2_14, g4_14, g9_14, g10_14, g11_14, k4_14, c15_l0]
  cases h29 : (decide (v14_11 < (a0.length : Int)))
  · simp only [D, DT, reduceIte, reduceCtorEq, Nat.reduceEqDiff, Nat.reduceAdd, Nat.reduceLT, Nat.reduceLeDiff, Nat.reduceBEq, Int.reduceLE, Int.reduceLT, Int.reduceEq, Int.reduceNeg, g2_14, g4_14, g9_14, g10_14, g11_14, k4_14, c15_l0, h29]
    exact (hx0 _ _).trans (hd _).symm
  · simp only [D, DT, reduceIte, reduceCtorEq, Nat.reduceEqDiff, Nat.reduceAdd, Nat.reduceLT, Nat.reduceLeDiff, Nat.reduceBEq, Int.reduceLE, Int.reduceLT, Int.reduceEq, Int.reduceNeg, g2_14, g4_14, g9_14, g10_14, g11_14, k4_14, c15_l0, h29]
    rcases h30 : idx a0 v14_11 with _ | x31
    · simp only [D, DT, reduceIte, reduceCtorEq, Nat.reduceEqDiff, Nat.reduceAdd, Nat.reduceLT, Nat.reduceLeDiff, Nat.reduceBEq, Int.reduceLE, Int.reduceLT, Int.reduceEq, Int.reduceNeg, g2_14, g4_14, g9_14, g10_14, g11_14, k4_14, c15_l0, h29, h30]
    · simp only [D, DT, reduceIte, reduceCtorEq, Nat.reduceEqDiff, Nat.reduceAdd, Nat.reduceLT, Nat.reduceLeDiff, Nat.reduceBEq, Int.reduceLE, Int.reduceLT, Int.reduceEq, Int.reduceNeg, g2_14, g4_14, g9_14, g10_14, g11_14, k4_14, c15_l0, h29, h30]
      cases h32 : v14_2
      · simp only [D, DT, reduceIte, reduceCtorEq, Nat.reduceEqDiff, Nat.reduceAdd, Nat.reduceLT, Nat.reduceLeDiff, Nat.reduceBEq, Int.reduceLE, Int.reduceLT, Int.reduceEq, Int.reduceNeg, g2_14, g4_14, g9_14, g10_14, g11_14, k4_14, c15_l0, h29, h30, h32]
        have c33 : ansL X 19 [(.agg [(.str x31.Text), (.bool x31.Weak)]), (.agg [(.str a1.Text), (.bool a1.Weak)])] = Option.map AV.bool (mandolineref05_Weak.f x31 a1) := mandolineref05_Weak.ok x31 a1
        rcases h34 : mandolineref05_Weak.f x31 a1 with _ | x35
        · simp only [D, DT, reduceIte, reduceCtorEq, Nat.reduceEqDiff, Nat.reduceAdd, Nat.reduceLT, Nat.reduceLeDiff, Nat.reduceBEq, Int.reduceLE, Int.reduceLT, Int.reduceEq, Int.reduceNeg, g2_14, g4_14, g9_14, g10_14, g11_14, k4_14, c15_l0, h29, h30, h32, c33, h34]
        · simp only [D, DT, reduceIte, reduceCtorEq, Nat.reduceEqDiff, Nat.reduceAdd, Nat.reduceLT, Nat.reduceLeDiff, Nat.reduceBEq, Int.reduceLE, Int.reduceLT, Int.reduceEq, Int.reduceNeg, g2_14, g4_14, g9_14, g10_14, g11_14, k4_14, c15_l0, h29, h30, h32, c33, h34]
          cases h36 : x35
          · simp only [D, DT, reduceIte, reduceCtorEq, Nat.reduceEqDiff, Nat.reduceAdd, Nat.reduceLT, Nat.reduceLeDiff, Nat.reduceBEq, Int.reduceLE, Int.reduceLT, Int.reduceEq, Int.reduceNeg, g2_14, g4_14, g9_14, g10_14, g11_14, k4_14, c15_l0, h29, h30, h32, c33, h34, h36]
            exact hn _ _ _ ⟨(by first | (simp only [D, DT, reduceIte, reduceCtorEq, Nat.reduceEqDiff, Nat.reduceAdd, Nat.reduceLT, Nat.reduceLeDiff, Nat.reduceBEq, Int.reduceLE, Int.reduceLT, Int.reduceEq, Int.reduceNeg, g2_14, g4_14, g9_14, g10_14, g11_14, k4_14, c15_l0, h29, h30, h32, c33, h34, h36] <;> rfl) | rfl), (by first | (simp only [D, DT, reduceIte, reduceCtorEq, Nat.reduceEqDiff, Nat.reduceAdd, Nat.reduceLT, Nat.reduceLeDiff, Nat.reduceBEq, Int.reduceLE, Int.reduceLT, Int.reduceEq, Int.reduceNeg, g2_14, g4_14, g9_14, g10_14, g11_14, k4_14, c15_l0, h29, h30, h32, c33, h34, h36] <;> rfl) | rfl), (by first | (simp only [D, DT, reduceIte, reduceCtorEq, Nat.reduceEqDiff, Nat.reduceAdd, Nat.reduceLT, Nat.reduceLeDiff, Nat.reduceBEq, Int.reduceLE, Int.reduceLT, Int.reduceEq, Int.reduceNeg, g2_14, g4_14, g9_14, g10_14, g11_14, k4_14, c15_l0, h29, h30, h32, c33, h34, h36] <;> rfl) | rfl), (by first | (simp only [D, DT, reduceIte, reduceCtorEq, Nat.reduceEqDiff, Nat.reduceAdd, Nat.reduceLT, Nat.reduceLeDiff, Nat.reduceBEq, Int.reduceLE, Int.reduceLT, Int.reduceEq, Int.reduceNeg, g2_14, g4_14, g9_14, g10_14, g11_14, k4_14, c15_l0, h29, h30, h32, c33, h34, h36] <;> rfl) | rfl), (by first | (simp only [D, DT, reduceIte, reduceCtorEq, Nat.reduceEqDiff, Nat.reduceAdd, Nat.reduceLT, Nat.reduceLeDiff, Nat.reduceBEq, Int.reduceLE, Int.reduceLT, Int.reduceEq, Int.reduceNeg, g2_14, g4_14, g9_14, g10_14, g11_14, k4_14, c15_l0, h29, h30, h32, c33, h34, h36] <;> rfl) | rfl), (by first | (simp only [D, DT, reduceIte, reduceCtorEq, Nat.reduceEqDiff, Nat.reduceAdd, Nat.reduceLT, Nat.reduceLeDiff, Nat.reduceBEq, Int.reduceLE, Int.reduceLT, Int.reduceEq, Int.reduceNeg, g2_14, g4_14, g9_14, g10_14, g11_14, k4_14, c15_l0, h29, h30, h32, c33, h34, h36] <;> rfl) | rfl)⟩
          · simp only [D, DT, reduceIte, reduceCtorEq, Nat.reduceEqDiff, Nat.reduceAdd, Nat.reduceLT, Nat.reduceLeDiff, Nat.reduceBEq, Int.reduceLE, Int.reduceLT, Int.reduceEq, Int.reduceNeg, g2_14, g4_14, g9_14, g10_14, g11_14, k4_14, c15_l0, h29, h30, h32, c33, h34, h36]
            exact (hret _ _ (by first | (simp only [D, DT, reduceIte, reduceCtorEq, Nat.reduceEqDiff, Nat.reduceAdd, Nat.reduceLT, Nat.reduceLeDiff, Nat.reduceBEq, Int.reduceLE, Int.reduceLT, Int.reduceEq, Int.reduceNeg, g2_14, g4_14, g9_14, g10_14, g11_14, k4_14, c15_l0, h29, h30, h32, c33, h34, h36] <;> rfl) | rfl)).trans (hd _).symm
      · simp only [D, DT, reduceIte, reduceCtorEq, Nat.reduceEqDiff, Nat.reduceAdd, Nat.reduceLT, Nat.reduceLeDiff, Nat.reduceBEq, Int.reduceLE, Int.reduceLT, Int.reduceEq, Int.reduceNeg, g2_14, g4_14, g9_14, g10_14, g11_14, k4_14, c15_l0, h29, h30, h32]
        have c37 : ansL X 16 [(.agg [(.str x31.Text), (.bool x31.Weak)]), (.agg [(.str a1.Text), (.bool a1.Weak)])] = Option.map AV.bool (mandolineref05_Strong.f x31 a1) := mandolineref05_Strong.ok x31 a1
        rcases h38 : mandolineref05_Strong.f x31 a1 with _ | x39
        · simp only [D, DT, reduceIte, reduceCtorEq, Nat.reduceEqDiff, Nat.reduceAdd, Nat.reduceLT, Nat.reduceLeDiff, Nat.reduceBEq, Int.reduceLE, Int.reduceLT, Int.reduceEq, Int.reduceNeg, g2_14, g4_14, g9_14, g10_14, g11_14, k4_14, c15_l0, h29, h30, h32, c37, h38]
        · simp only [D, DT, reduceIte, reduceCtorEq, Nat.reduceEqDiff, Nat.reduceAdd, Nat.reduceLT, Nat.reduceLeDiff, Nat.reduceBEq, Int.reduceLE, Int.reduceLT, Int.reduceEq, Int.reduceNeg, g2_14, g4_14, g9_14, g10_14, g11_14, k4_14, c15_l0, h29, h30, h32, c37, h38]
          cases h40 : x39
          · simp only [D, DT, reduceIte, reduceCtorEq, Nat.reduceEqDiff, Nat.reduceAdd, Nat.reduceLT, Nat.reduceLeDiff, Nat.reduceBEq, Int.reduceLE, Int.reduceLT, Int.reduceEq, Int.reduceNeg, g2_14, g4_14, g9_14, g10_14, g11_14, k4_14, c15_l0, h29, h30, h32, c37, h38, h40]
            exact hn _ _ _ ⟨(by first | (simp only [D, DT, reduceIte, reduceCtorEq, Nat.reduceEqDiff, Nat.reduceAdd, Nat.reduceLT, Nat.reduceLeDiff, Nat.reduceBEq, Int.reduceLE, Int.reduceLT, Int.reduceEq, Int.reduceNeg, g2_14, g4_14, g9_14, g10_14, g11_14, k4_14, c15_l0, h29, h30, h32, c37, h38, h40] <;> rfl) | rfl), (by first | (simp only [D, DT, reduceIte, reduceCtorEq, Nat.reduceEqDiff, Nat.reduceAdd, Nat.reduceLT, Nat.reduceLeDiff, Nat.reduceBEq, Int.reduceLE, Int.reduceLT, Int.reduceEq, Int.reduceNeg, g2_14, g4_14, g9_14, g10_14, g11_14, k4_14, c15_l0, h29, h30, h32, c37, h38, h40] <;> rfl) | rfl), (by first | (simp only [D, DT, reduceIte, reduceCtorEq, Nat.reduceEqDiff, Nat.reduceAdd, Nat.reduceLT, Nat.reduceLeDiff, Nat.reduceBEq, Int.reduceLE, Int.reduceLT, Int.reduceEq, Int.reduceNeg, g2_14, g4_14, g9_14, g10_14, g11_14, k4_14, c15_l0, h29, h30, h32, c37, h38, h40] <;> rfl) | rfl), (by first | (simp only [D, DT, reduceIte, reduceCtorEq, Nat.reduceEqDiff, Nat.reduceAdd, Nat.reduceLT, Nat.reduceLeDiff, Nat.reduceBEq, Int.reduceLE, Int.reduceLT, Int.reduceEq, Int.reduceNeg, g2_14, g4_14, g9_14, g10_14, g11_14, k4_14, c15_l0, h29, h30, h32, c37, h38, h40] <;> rfl) | rfl), (by first | (simp only [D, DT, reduceIte, reduceCtorEq, Nat.reduceEqDiff, Nat.reduceAdd, Nat.reduceLT, Nat.reduceLeDiff, Nat.reduceBEq, Int.reduceLE, Int.reduceLT, Int.reduceEq, Int.reduceNeg, g2_14, g4_14, g9_14, g10_14, g11_14, k4_14, c15_l0, h29, h30, h32, c37, h38, h40] <;> rfl) | rfl), (by first | (simp only [D, DT, reduceIte, reduceCtorEq, Nat.reduceEqDiff, Nat.reduceAdd, Nat.reduceLT, Nat.reduceLeDiff, Nat.reduceBEq, Int.reduceLE, Int.reduceLT, Int.reduceEq, Int.reduceNeg, g2_14, g4_14, g9_14, g10_14, g11_14, k4_14, c15_l0, h29, h30, h32, c37, h38, h40] <;> rfl) | rfl)⟩
          · simp only [D, DT, reduceIte, reduceCtorEq, Nat.reduceEqDiff, Nat.reduceAdd, Nat.reduceLT, Nat.reduceLeDiff, Nat.reduceBEq, Int.reduceLE, Int.reduceLT, Int.reduceEq, Int.reduceNeg, g2_14, g4_14, g9_14, g10_14, g11_14, k4_14, c15_l0, h29, h30, h32, c37, h38, h40]
            exact (hret _ _ (by first | (simp only [D, DT, reduceIte, reduceCtorEq, Nat.reduceEqDiff, Nat.reduceAdd, Nat.reduceLT, Nat.reduceLeDiff, Nat.reduceBEq, Int.reduceLE, Int.reduceLT, Int.reduceEq, Int.reduceNeg, g2_14, g4_14, g9_14, g10_14, g11_14, k4_14, c15_l0, h29, h30, h32, c37, h38, h40] <;> rfl) | rfl)).trans (hd _).symm
noncomputable def mandolineref08_one.a0 : mandolineref08_one.l0X → Option Bool
  | .x0 =>
    some false
  | .ret =>
    some true
noncomputable def mandolineref08_one.f (a0 : (List api_Tag)) (a1 : api_Tag) (a2 : Bool) : Option Bool :=
  (loopL (fun (s : Bool × Int) => mandolineref08_one.l0B a0 a1 s.1 s.2) (a2, 0)).bind (mandolineref08_one.a0)
set_option maxHeartbeats 4000000 in
theorem mandolineref08_one.ok (a0 : (List api_Tag)) (a1 : api_Tag) (a2 : Bool) : ansL X 15 [(.sl (encL api_Tag.enc a0)), (.agg [(.str a1.Text), (.bool a1.Weak)]), (.bool a2)] = Option.map AV.bool (mandolineref08_one.f a0 a1 a2) := by
  rw [ansL_run (fd := c15) rfl rfl]
  simp only [D, DT, reduceIte, reduceCtorEq, Nat.reduceEqDiff, Nat.reduceAdd, Nat.reduceLT, Nat.reduceLeDiff, Nat.reduceBEq, Int.reduceLE, Int.reduceLT, Int.reduceEq, Int.reduceNeg, c15, mandolineref08_one.f]
  refine Eq.trans (mandolineref08_one.l0_ok (fun x => Option.map AV.bool (mandolineref08_one.a0 x)) a0 a1 ?_ ?_ a2 0 _ _ (by first | (simp only [D, DT, reduceIte, reduceCtorEq, Nat.reduceEqDiff, Nat.reduceAdd, Nat.reduceLT, Nat.reduceLeDiff, Nat.reduceBEq, Int.reduceLE, Int.reduceLT, Int.reduceEq, Int.reduceNeg] <;> rfl) | rfl) (by first | (simp only [D, DT, reduceIte, reduceCtorEq, Nat.reduceEqDiff, Nat.reduceAdd, Nat.reduceLT, Nat.reduceLeDiff, Nat.reduceBEq, Int.reduceLE, Int.reduceLT, Int.reduceEq, Int.reduceNeg] <;> rfl) | rfl) (by first | (simp only [D, DT, reduceIte, reduceCtorEq, Nat.reduceEqDiff, Nat.reduceAdd, Nat.reduceLT, Nat.reduceLeDiff, Nat.reduceBEq, Int.reduceLE, Int.reduceLT, Int.reduceEq, Int.reduceNeg] <;> rfl) | rfl) (by first | (simp only [D, DT, reduceIte, reduceCtorEq, Nat.reduceEqDiff, Nat.reduceAdd, Nat.reduceLT, Nat.reduceLeDiff, Nat.reduceBEq, Int.reduceLE, Int.reduceLT, Int.reduceEq, Int.reduceNeg] <;> rfl) | rfl) (by first | (simp only [D, DT, reduceIte, reduceCtorEq, Nat.reduceEqDiff, Nat.reduceAdd, Nat.reduceLT, Nat.reduceLeDiff, Nat.reduceBEq, Int.reduceLE, Int.reduceLT, Int.reduceEq, Int.reduceNeg] <;> rfl) | rfl) (by first | (simp only [D, DT, reduceIte, reduceCtorEq, Nat.reduceEqDiff, Nat.reduceAdd, Nat.reduceLT, Nat.reduceLeDiff, Nat.reduceBEq, Int.reduceLE, Int.reduceLT, Int.reduceEq, Int.reduceNeg] <;> rfl) | rfl)) ?_
  · intro e_41 H_41
    simp only [D, DT, reduceIte, reduceCtorEq, Nat.reduceEqDiff, Nat.reduceAdd, Nat.reduceLT, Nat.reduceLeDiff, Nat.reduceBEq, Int.reduceLE, Int.reduceLT, Int.reduceEq, Int.reduceNeg, mandolineref08_one.a0]
    try rfl
  · intro e_42 H_42 g6_28_42
    simp only [D, DT, reduceIte, reduceCtorEq, Nat.reduceEqDiff, Nat.reduceAdd, Nat.reduceLT, Nat.reduceLeDiff, Nat.reduceBEq, Int.reduceLE, Int.reduceLT, Int.reduceEq, Int.reduceNeg, mandolineref08_one.a0, g6_28_42]
    try rfl
  exact mb _ _ _
noncomputable def cond_failed.f (a0 : api_Cond) (a1 : api_Meta) (a2 : Bool) : Option Bool :=
  bif a0.AnyMatch then
    bif a2 then
      some false
    else
      some true
  else
    bif (decide ((0 : Int) < (a0.Match.length : Int))) then
      bif a2 then
        (tag_In.f a0.Match (api_Tag.mk a1.Tag_Text a1.Tag_Weak) true).bind fun x9 =>
        some (!x9)
      else
        some true
    else
      bif (decide ((0 : Int) ≤ a0.Unless)) then
        bif a2 then
          bif (decide ((0 : Int) ≤ a1.Modified)) then
            some (decide (a0.Unless < a1.Modified))
          else
            some false
        else
          some false
      else
        some false
set_option maxHeartbeats 4000000 in
theorem cond_failed.ok (a0 : api_Cond) (a1 : api_Meta) (a2 : Bool) : ansL X 12 [(.agg [(.sl (encL api_Tag.enc a0.Match)), (.sl (encL api_Tag.enc a0.None)), (.bool a0.AnyMatch), (.bool a0.AnyNone), (.int .i64 a0.Since), (.int .i64 a0.Unless), (.str a0.Range_Text), (.bool a0.Range_Weak)]), (.agg [(.str a1.Tag_Text), (.bool a1.Tag_Weak), (.int .i64 a1.Modified), (.int .i64 a1.Length), (.int .i64 a1.Have), (.int .i64 a1.Fresh), (.int .i64 a1.While), (.int .i64 a1.Error), (.sl (encL AV.str a1.Keys)), (.str a1.Tenant), (.bool a1.Keep)]), (.bool a2)] = Option.map AV.bool (cond_failed.f a0 a1 a2) := by
  rw [ansL_run (fd := c12) rfl rfl]
  simp only [D, DT, reduceIte, reduceCtorEq, Nat.reduceEqDiff, Nat.reduceAdd, Nat.reduceLT, Nat.reduceLeDiff, Nat.reduceBEq, Int.reduceLE, Int.reduceLT, Int.reduceEq, Int.reduceNeg, c12, cond_failed.f]
  cases h1 : a0.AnyMatch
  · simp only [D, DT, reduceIte, reduceCtorEq, Nat.reduceEqDiff, Nat.reduceAdd, Nat.reduceLT, Nat.reduceLeDiff, Nat.reduceBEq, Int.reduceLE, Int.reduceLT, Int.reduceEq, Int.reduceNeg, h1]
    cases h2 : (decide ((0 : Int) < (a0.Match.length : Int)))
    · simp only [D, DT, reduceIte, reduceCtorEq, Nat.reduceEqDiff, Nat.reduceAdd, Nat.reduceLT, Nat.reduceLeDiff, Nat.reduceBEq, Int.reduceLE, Int.reduceLT, Int.reduceEq, Int.reduceNeg, h1, h2]
      cases h3 : (decide ((0 : Int) ≤ a0.Unless))
      · simp only [D, DT, reduceIte, reduceCtorEq, Nat.reduceEqDiff, Nat.reduceAdd, Nat.reduceLT, Nat.reduceLeDiff, Nat.reduceBEq, Int.reduceLE, Int.reduceLT, Int.reduceEq, Int.reduceNeg, h1, h2, h3]
        try rfl
      · simp only [D, DT, reduceIte, reduceCtorEq, Nat.reduceEqDiff, Nat.reduceAdd, Nat.reduceLT, Nat.reduceLeDiff, Nat.reduceBEq, Int.reduceLE, Int.reduceLT, Int.reduceEq, Int.reduceNeg, h1, h2, h3]
        cases h4 : a2
        · simp only [D, DT, reduceIte, reduceCtorEq, Nat.reduceEqDiff, Nat.reduceAdd, Nat.reduceLT, Nat.reduceLeDiff, Nat.reduceBEq, Int.reduceLE, Int.reduceLT, Int.reduceEq, Int.reduceNeg, h1, h2, h3, h4]
          try rfl
        · simp only [D, DT, reduceIte, reduceCtorEq, Nat.reduceEqDiff, Nat.reduceAdd, Nat.reduceLT, Nat.reduceLeDiff, Nat.reduceBEq, Int.reduceLE, Int.reduceLT, Int.reduceEq, Int.reduceNeg, h1, h2, h3, h4]
          cases h5 : (decide ((0 : Int) ≤ a1.Modified))
          · simp only [D, DT, reduceIte, reduceCtorEq, Nat.reduceEqDiff, Nat.reduceAdd, Nat.reduceLT, Nat.reduceLeDiff, Nat.reduceBEq, Int.reduceLE, Int.reduceLT, Int.reduceEq, Int.reduceNeg, h1, h2, h3, h4, h5]
            try rfl
          · simp only [D, DT, reduceIte, reduceCtorEq, Nat.reduceEqDiff, Nat.reduceAdd, Nat.reduceLT, Nat.reduceLeDiff, Nat.reduceBEq, Int.reduceLE, Int.reduceLT, Int.reduceEq, Int.reduceNeg, h1, h2, h3, h4, h5]
            try rfl
    · simp only [D, DT, reduceIte, reduceCtorEq, Nat.reduceEqDiff, Nat.reduceAdd, Nat.reduceLT, Nat.reduceLeDiff, Nat.reduceBEq, Int.reduceLE, Int.reduceLT, Int.reduceEq, Int.reduceNeg, h1, h2]
      cases h6 : a2
      · simp only [D, DT, reduceIte, reduceCtorEq, Nat.reduceEqDiff, Nat.reduceAdd, Nat.reduceLT, Nat.reduceLeDiff, Nat.reduceBEq, Int.reduceLE, Int.reduceLT, Int.reduceEq, Int.reduceNeg, h1, h2, h6]
        try rfl
      · simp only [D, DT, reduceIte, reduceCtorEq, Nat.reduceEqDiff, Nat.reduceAdd, Nat.reduceLT, Nat.reduceLeDiff, Nat.reduceBEq, Int.reduceLE, Int.reduceLT, Int.reduceEq, Int.reduceNeg, h1, h2, h6]
        have c7 : ansL X 17 [(.sl (encL api_Tag.enc a0.Match)), (.agg [(.str a1.Tag_Text), (.bool a1.Tag_Weak)]), (.bool true)] = Option.map AV.bool (tag_In.f a0.Match (api_Tag.mk a1.Tag_Text a1.Tag_Weak) true) := tag_In.ok a0.Match (api_Tag.mk a1.Tag_Text a1.Tag_Weak) true
        rcases h8 : tag_In.f a0.Match (api_Tag.mk a1.Tag_Text a1.Tag_Weak) true with _ | x9
        · simp only [D, DT, reduceIte, reduceCtorEq, Nat.reduceEqDiff, Nat.reduceAdd, Nat.reduceLT, Nat.reduceLeDiff, Nat.reduceBEq, Int.reduceLE, Int.reduceLT, Int.reduceEq, Int.reduceNeg, h1, h2, h6, c7, h8]
        · simp only [D, DT, reduceIte, reduceCtorEq, Nat.reduceEqDiff, Nat.reduceAdd, Nat.reduceLT, Nat.reduceLeDiff, Nat.reduceBEq, Int.reduceLE, Int.reduceLT, Int.reduceEq, Int.reduceNeg, h1, h2, h6, c7, h8]
          try rfl
  · simp only [D, DT, reduceIte, reduceCtorEq, Nat.reduceEqDiff, Nat.reduceAdd, Nat.reduceLT, Nat.reduceLeDiff, Nat.reduceBEq, Int.reduceLE, Int.reduceLT, Int.reduceEq, Int.reduceNeg, h1]
    cases h10 : a2
    · simp only [D, DT, reduceIte, reduceCtorEq, Nat.reduceEqDiff, Nat.reduceAdd, Nat.reduceLT, Nat.reduceLeDiff, Nat.reduceBEq, Int.reduceLE, Int.reduceLT, Int.reduceEq, Int.reduceNeg, h1, h10]
      try rfl
    · simp only [D, DT, reduceIte, reduceCtorEq, Nat.reduceEqDiff, Nat.reduceAdd, Nat.reduceLT, Nat.reduceLeDiff, Nat.reduceBEq, Int.reduceLE, Int.reduceLT, Int.reduceEq, Int.reduceNeg, h1, h10]
      try rfl
noncomputable def cond_same.f (a0 : api_Cond) (a1 : api_Meta) : Option Bool :=
  bif a0.AnyNone then
    some true
  else
    bif (decide ((0 : Int) < (a0.None.length : Int))) then
      (tag_In.f a0.None (api_Tag.mk a1.Tag_Text a1.Tag_Weak) false).bind fun x8 =>
      some x8
    else
      bif (decide ((0 : Int) ≤ a0.Since)) then
        bif (decide (a1.Length = (-1))) then
          some false
        else
          bif (decide ((0 : Int) ≤ a1.Modified)) then
            some (decide (a1.Modified ≤ a0.Since))
          else
            some false
      else
        some false
set_option maxHeartbeats 4000000 in
theorem cond_same.ok (a0 : api_Cond) (a1 : api_Meta) : ansL X 13 [(.agg [(.sl (encL api_Tag.enc a0.Match)), (.sl (encL api_Tag.enc a0.None)), (.bool a0.AnyMatch), (.bool a0.AnyNone), (.int .i64 a0.Since), (.int .i64 a0.Unless), (.str a0.Range_Text), (.bool a0.Range_Weak)]), (.agg [(.str a1.Tag_Text), (.bool a1.Tag_Weak), (.int .i64 a1.Modified), (.int .i64 a1.Length), (.int .i64 a1.Have), (.int .i64 a1.Fresh), (.int .i64 a1.While), (.int .i64 a1.Error), (.sl (encL AV.str a1.Keys)), (.str a1.Tenant), (.bool a1.Keep)])] = Option.map AV.bool (cond_same.f a0 a1) := by
  rw [ansL_run (fd := c13) rfl rfl]
  simp only [D, DT, reduceIte, reduceCtorEq, Nat.reduceEqDiff, Nat.reduceAdd, Nat.reduceLT, Nat.reduceLeDiff, Nat.reduceBEq, Int.reduceLE, Int.reduceLT, Int.reduceEq, Int.reduceNeg, c13, cond_same.f]
  cases h1 : a0.AnyNone
  · simp only [D, DT, reduceIte, reduceCtorEq, Nat.reduceEqDiff, Nat.reduceAdd, Nat.reduceLT, Nat.reduceLeDiff, Nat.reduceBEq, Int.reduceLE, Int.reduceLT, Int.reduceEq, Int.reduceNeg, h1]
    cases h2 : (decide ((0 : Int) < (a0.None.length : Int)))
    · simp only [D, DT, reduceIte, reduceCtorEq, Nat.reduceEqDiff, Nat.reduceAdd, Nat.reduceLT, Nat.reduceLeDiff, Nat.reduceBEq, Int.reduceLE, Int.reduceLT, Int.reduceEq, Int.reduceNeg, h1, h2]
      cases h3 : (decide ((0 : Int) ≤ a0.Since))
      · simp only [D, DT, reduceIte, reduceCtorEq, Nat.reduceEqDiff, Nat.reduceAdd, Nat.reduceLT, Nat.reduceLeDiff, Nat.reduceBEq, Int.reduceLE, Int.reduceLT, Int.reduceEq, Int.reduceNeg, h1, h2, h3]
        try rfl
      · simp only [D, DT, reduceIte, reduceCtorEq, Nat.reduceEqDiff, Nat.reduceAdd, Nat.reduceLT, Nat.reduceLeDiff, Nat.reduceBEq, Int.reduceLE, Int.reduceLT, Int.reduceEq, Int.reduceNeg, h1, h2, h3]
        cases h4 : (decide (a1.Length = (-1)))
        · simp only [D, DT, reduceIte, reduceCtorEq, Nat.reduceEqDiff, Nat.reduceAdd, Nat.reduceLT, Nat.reduceLeDiff, Nat.reduceBEq, Int.reduceLE, Int.reduceLT, Int.reduceEq, Int.reduceNeg, h1, h2, h3, h4]
          cases h5 : (decide ((0 : Int) ≤ a1.Modified))
          · simp only [D, DT, reduceIte, reduceCtorEq, Nat.reduceEqDiff, Nat.reduceAdd, Nat.reduceLT, Nat.reduceLeDiff, Nat.reduceBEq, Int.reduceLE, Int.reduceLT, Int.reduceEq, Int.reduceNeg, h1, h2, h3, h4, h5]
            try rfl
          · simp only [D, DT, reduceIte, reduceCtorEq, Nat.reduceEqDiff, Nat.reduceAdd, Nat.reduceLT, Nat.reduceLeDiff, Nat.reduceBEq, Int.reduceLE, Int.reduceLT, Int.reduceEq, Int.reduceNeg, h1, h2, h3, h4, h5]
            try rfl
        · simp only [D, DT, reduceIte, reduceCtorEq, Nat.reduceEqDiff, Nat.reduceAdd, Nat.reduceLT, Nat.reduceLeDiff, Nat.reduceBEq, Int.reduceLE, Int.reduceLT, Int.reduceEq, Int.reduceNeg, h1, h2, h3, h4]
          try rfl
    · simp only [D, DT, reduceIte, reduceCtorEq, Nat.reduceEqDiff, Nat.reduceAdd, Nat.reduceLT, Nat.reduceLeDiff, Nat.reduceBEq, Int.reduceLE, Int.reduceLT, Int.reduceEq, Int.reduceNeg, h1, h2]
      have c6 : ansL X 17 [(.sl (encL api_Tag.enc a0.None)), (.agg [(.str a1.Tag_Text), (.bool a1.Tag_Weak)]), (.bool false)] = Option.map AV.bool (tag_In.f a0.None (api_Tag.mk a1.Tag_Text a1.Tag_Weak) false) := tag_In.ok a0.None (api_Tag.mk a1.Tag_Text a1.Tag_Weak) false
      rcases h7 : tag_In.f a0.None (api_Tag.mk a1.Tag_Text a1.Tag_Weak) false with _ | x8
      · simp only [D, DT, reduceIte, reduceCtorEq, Nat.reduceEqDiff, Nat.reduceAdd, Nat.reduceLT, Nat.reduceLeDiff, Nat.reduceBEq, Int.reduceLE, Int.reduceLT, Int.reduceEq, Int.reduceNeg, h1, h2, c6, h7]
      · simp only [D, DT, reduceIte, reduceCtorEq, Nat.reduceEqDiff, Nat.reduceAdd, Nat.reduceLT, Nat.reduceLeDiff, Nat.reduceBEq, Int.reduceLE, Int.reduceLT, Int.reduceEq, Int.reduceNeg, h1, h2, c6, h7]
        try rfl
  · simp only [D, DT, reduceIte, reduceCtorEq, Nat.reduceEqDiff, Nat.reduceAdd, Nat.reduceLT, Nat.reduceLeDiff, Nat.reduceBEq, Int.reduceLE, Int.reduceLT, Int.reduceEq, Int.reduceNeg, h1]
    try rfl
noncomputable def cond_Check.f (a0 : api_Request) (a1 : api_Meta) (a2 : Bool) : Option Int :=
  (cond_failed.f (api_Cond.mk a0.Cond_Match a0.Cond_None a0.Cond_AnyMatch a0.Cond_AnyNone a0.Cond_Since a0.Cond_Unless a0.Cond_Range_Text a0.Cond_Range_Weak) a1 a2).bind fun x3 =>
  bif x3 then
    some 4
  else
    bif a2 then
      (cond_same.f (api_Cond.mk a0.Cond_Match a0.Cond_None a0.Cond_AnyMatch a0.Cond_AnyNone a0.Cond_Since a0.Cond_Unless a0.Cond_Range_Text a0.Cond_Range_Weak) a1).bind fun x8 =>
      bif x8 then
        some 3
      else
        bif (decide ((0 : Int) < (a0.Specs.length : Int))) then
          bif ((a0.Cond_Range_Text == []) && (a0.Cond_Range_Weak == false)) then
            some 1
          else
            (tag_Strong.f (api_Tag.mk a1.Tag_Text a1.Tag_Weak) (api_Tag.mk a0.Cond_Range_Text a0.Cond_Range_Weak)).bind fun x14 =>
            bif x14 then
              some 1
            else
              some 2
        else
          some 1
    else
      some 1
set_option maxHeartbeats 4000000 in
theorem cond_Check.ok (a0 : api_Request) (a1 : api_Meta) (a2 : Bool) : ansL X 8 [(.agg [(.bool a0.Head), (.str a0.Object), (.sl (encL api_Spec.enc a0.Specs)), (.sl (encL api_Tag.enc a0.Cond_Match)), (.sl (encL api_Tag.enc a0.Cond_None)), (.bool a0.Cond_AnyMatch), (.bool a0.Cond_AnyNone), (.int .i64 a0.Cond_Since), (.int .i64 a0.Cond_Unless), (.str a0.Cond_Range_Text), (.bool a0.Cond_Range_Weak)]), (.agg [(.str a1.Tag_Text), (.bool a1.Tag_Weak), (.int .i64 a1.Modified), (.int .i64 a1.Length), (.int .i64 a1.Have), (.int .i64 a1.Fresh), (.int .i64 a1.While), (.int .i64 a1.Error), (.sl (encL AV.str a1.Keys)), (.str a1.Tenant), (.bool a1.Keep)]), (.bool a2)] = Option.map (AV.int .i64) (cond_Check.f a0 a1 a2) := by
  rw [ansL_run (fd := c8) rfl rfl]
  simp only [D, DT, reduceIte, reduceCtorEq, Nat.reduceEqDiff, Nat.reduceAdd, Nat.reduceLT, Nat.reduceLeDiff, Nat.reduceBEq, Int.reduceLE, Int.reduceLT, Int.reduceEq, Int.reduceNeg, c8, cond_Check.f]
  have c1 : ansL X 12 [(.agg [(.sl (encL api_Tag.enc a0.Cond_Match)), (.sl (encL api_Tag.enc a0.Cond_None)), (.bool a0.Cond_AnyMatch), (.bool a0.Cond_AnyNone), (.int .i64 a0.Cond_Since), (.int .i64 a0.Cond_Unless), (.str a0.Cond_Range_Text), (.bool a0.Cond_Range_Weak)]), (.agg [(.str a1.Tag_Text), (.bool a1.Tag_Weak), (.int .i64 a1.Modified), (.int .i64 a1.Length), (.int .i64 a1.Have), (.int .i64 a1.Fresh), (.int .i64 a1.While), (.int .i64 a1.Error), (.sl (encL AV.str a1.Keys)), (.str a1.Tenant), (.bool a1.Keep)]), (.bool a2)] = Option.map AV.bool (cond_failed.f (api_Cond.mk a0.Cond_Match a0.Cond_None a0.Cond_AnyMatch a0.Cond_AnyNone a0.Cond_Since a0.Cond_Unless a0.Cond_Range_Text a0.Cond_Range_Weak) a1 a2) := cond_failed.ok (api_Cond.mk a0.Cond_Match a0.Cond_None a0.Cond_AnyMatch a0.Cond_AnyNone a0.Cond_Since a0.Cond_Unless a0.Cond_Range_Text a0.Cond_Range_Weak) a1 a2
  rcases h2 : cond_failed.f (api_Cond.mk a0.Cond_Match a0.Cond_None a0.Cond_AnyMatch a0.Cond_AnyNone a0.Cond_Since a0.Cond_Unless a0.Cond_Range_Text a0.Cond_Range_Weak) a1 a2 with _ | x3
  · simp only [D, DT, reduceIte, reduceCtorEq, Nat.reduceEqDiff, Nat.reduceAdd, Nat.reduceLT, Nat.reduceLeDiff, Nat.reduceBEq, Int.reduceLE, Int.reduceLT, Int.reduceEq, Int.reduceNeg, c1, h2]
  · simp only [D, DT, reduceIte, reduceCtorEq, Nat.reduceEqDiff, Nat.reduceAdd, Nat.reduceLT, Nat.reduceLeDiff, Nat.reduceBEq, Int.reduceLE, Int.reduceLT, Int.reduceEq, Int.reduceNeg, c1, h2]
    cases h4 : x3
    · simp only [D, DT, reduceIte, reduceCtorEq, Nat.reduceEqDiff, Nat.reduceAdd, Nat.reduceLT, Nat.reduceLeDiff, Nat.reduceBEq, Int.reduceLE, Int.reduceLT, Int.reduceEq, Int.reduceNeg, c1, h2, h4]
      cases h5 : a2
      · simp only [D, DT, reduceIte, reduceCtorEq, Nat.reduceEqDiff, Nat.reduceAdd, Nat.reduceLT, Nat.reduceLeDiff, Nat.reduceBEq, Int.reduceLE, Int.reduceLT, Int.reduceEq, Int.reduceNeg, c1, h2, h4, h5]
        try rfl
      · simp only [D, DT, reduceIte, reduceCtorEq, Nat.reduceEqDiff, Nat.reduceAdd, Nat.reduceLT, Nat.reduceLeDiff, Nat.reduceBEq, Int.reduceLE, Int.reduceLT, Int.reduceEq, Int.reduceNeg, c1, h2, h4, h5]
        have c6 : ansL X 13 [(.agg [(.sl (encL api_Tag.enc a0.Cond_Match)), (.sl (encL api_Tag.enc a0.Cond_None)), (.bool a0.Cond_AnyMatch), (.bool a0.Cond_AnyNone), (.int .i64 a0.Cond_Since), (.int .i64 a0.Cond_Unless), (.str a0.Cond_Range_Text), (.bool a0.Cond_Range_Weak)]), (.agg [(.str a1.Tag_Text), (.bool a1.Tag_Weak), (.int .i64 a1.Modified), (.int .i64 a1.Length), (.int .i64 a1.Have), (.int .i64 a1.Fresh), (.int .i64 a1.While), (.int .i64 a1.Error), (.sl (encL AV.str a1.Keys)), (.str a1.Tenant), (.bool a1.Keep)])] = Option.map AV.bool (cond_same.f (api_Cond.mk a0.Cond_Match a0.Cond_None a0.Cond_AnyMatch a0.Cond_AnyNone a0.Cond_Since a0.Cond_Unless a0.Cond_Range_Text a0.Cond_Range_Weak) a1) := cond_same.ok (api_Cond.mk a0.Cond_Match a0.Cond_None a0.Cond_AnyMatch a0.Cond_AnyNone a0.Cond_Since a0.Cond_Unless a0.Cond_Range_Text a0.Cond_Range_Weak) a1
        rcases h7 : cond_same.f (api_Cond.mk a0.Cond_Match a0.Cond_None a0.Cond_AnyMatch a0.Cond_AnyNone a0.Cond_Since a0.Cond_Unless a0.Cond_Range_Text a0.Cond_Range_Weak) a1 with _ | x8
        · simp only [D, DT, reduceIte, reduceCtorEq, Nat.reduceEqDiff, Nat.reduceAdd, Nat.reduceLT, Nat.reduceLeDiff, Nat.reduceBEq, Int.reduceLE, Int.reduceLT, Int.reduceEq, Int.reduceNeg, c1, h2, h4, h5, c6, h7]
        · simp only [D, DT, reduceIte, reduceCtorEq, Nat.reduceEqDiff, Nat.reduceAdd, Nat.reduceLT, Nat.reduceLeDiff, Nat.reduceBEq, Int.reduceLE, Int.reduceLT, Int.reduceEq, Int.reduceNeg, c1, h2, h4, h5, c6, h7]
          cases h9 : x8
          · simp only [D, DT, reduceIte, reduceCtorEq, Nat.reduceEqDiff, Nat.reduceAdd, Nat.reduceLT, Nat.reduceLeDiff, Nat.reduceBEq, Int.reduceLE, Int.reduceLT, Int.reduceEq, Int.reduceNeg, c1, h2, h4, h5, c6, h7, h9]
            cases h10 : (decide ((0 : Int) < (a0.Specs.length : Int)))
            · simp only [D, DT, reduceIte, reduceCtorEq, Nat.reduceEqDiff, Nat.reduceAdd, Nat.reduceLT, Nat.reduceLeDiff, Nat.reduceBEq, Int.reduceLE, Int.reduceLT, Int.reduceEq, Int.reduceNeg, c1, h2, h4, h5, c6, h7, h9, h10]
              try rfl
            · simp only [D, DT, reduceIte, reduceCtorEq, Nat.reduceEqDiff, Nat.reduceAdd, Nat.reduceLT, Nat.reduceLeDiff, Nat.reduceBEq, Int.reduceLE, Int.reduceLT, Int.reduceEq, Int.reduceNeg, c1, h2, h4, h5, c6, h7, h9, h10]
              cases h11 : ((a0.Cond_Range_Text == []) && (a0.Cond_Range_Weak == false))
              · simp only [D, DT, reduceIte, reduceCtorEq, Nat.reduceEqDiff, Nat.reduceAdd, Nat.reduceLT, Nat.reduceLeDiff, Nat.reduceBEq, Int.reduceLE, Int.reduceLT, Int.reduceEq, Int.reduceNeg, c1, h2, h4, h5, c6, h7, h9, h10, h11]
                have c12 : ansL X 14 [(.agg [(.str a1.Tag_Text), (.bool a1.Tag_Weak)]), (.agg [(.str a0.Cond_Range_Text), (.bool a0.Cond_Range_Weak)])] = Option.map AV.bool (tag_Strong.f (api_Tag.mk a1.Tag_Text a1.Tag_Weak) (api_Tag.mk a0.Cond_Range_Text a0.Cond_Range_Weak)) := tag_Strong.ok (api_Tag.mk a1.Tag_Text a1.Tag_Weak) (api_Tag.mk a0.Cond_Range_Text a0.Cond_Range_Weak)
                rcases h13 : tag_Strong.f (api_Tag.mk a1.Tag_Text a1.Tag_Weak) (api_Tag.mk a0.Cond_Range_Text a0.Cond_Range_Weak) with _ | x14
                · simp only [D, DT, reduceIte, reduceCtorEq, Nat.reduceEqDiff, Nat.reduceAdd, Nat.reduceLT, Nat.reduceLeDiff, Nat.reduceBEq, Int.reduceLE, Int.reduceLT, Int.reduceEq, Int.reduceNeg, c1, h2, h4, h5, c6, h7, h9, h10, h11, c12, h13]
                · simp only [D, DT, reduceIte, reduceCtorEq, Nat.reduceEqDiff, Nat.reduceAdd, Nat.reduceLT, Nat.reduceLeDiff, Nat.reduceBEq, Int.reduceLE, Int.reduceLT, Int.reduceEq, Int.reduceNeg, c1, h2, h4, h5, c6, h7, h9, h10, h11, c12, h13]
                  cases h15 : x14
                  · simp only [D, DT, reduceIte, reduceCtorEq, Nat.reduceEqDiff, Nat.reduceAdd, Nat.reduceLT, Nat.reduceLeDiff, Nat.reduceBEq, Int.reduceLE, Int.reduceLT, Int.reduceEq, Int.reduceNeg, c1, h2, h4, h5, c6, h7, h9, h10, h11, c12, h13, h15]
                    try rfl
                  · simp only [D, DT, reduceIte, reduceCtorEq, Nat.reduceEqDiff, Nat.reduceAdd, Nat.reduceLT, Nat.reduceLeDiff, Nat.reduceBEq, Int.reduceLE, Int.reduceLT, Int.reduceEq, Int.reduceNeg, c1, h2, h4, h5, c6, h7, h9, h10, h11, c12, h13, h15]
                    try rfl
              · simp only [D, DT, reduceIte, reduceCtorEq, Nat.reduceEqDiff, Nat.reduceAdd, Nat.reduceLT, Nat.reduceLeDiff, Nat.reduceBEq, Int.reduceLE, Int.reduceLT, Int.reduceEq, Int.reduceNeg, c1, h2, h4, h5, c6, h7, h9, h10, h11]
                try rfl
          · simp only [D, DT, reduceIte, reduceCtorEq, Nat.reduceEqDiff, Nat.reduceAdd, Nat.reduceLT, Nat.reduceLeDiff, Nat.reduceBEq, Int.reduceLE, Int.reduceLT, Int.reduceEq, Int.reduceNeg, c1, h2, h4, h5, c6, h7, h9]
            try rfl
    · simp only [D, DT, reduceIte, reduceCtorEq, Nat.reduceEqDiff, Nat.reduceAdd, Nat.reduceLT, Nat.reduceLeDiff, Nat.reduceBEq, Int.reduceLE, Int.reduceLT, Int.reduceEq, Int.reduceNeg, c1, h2, h4]
      try rfl
noncomputable def mandolineref08_Check.k1 (a0 : api_Request) (a1 : api_Meta) : Option Int :=
  bif (a0.Cond_Range_Text == []) then
    bif (decide ((0 : Int) < (a0.Specs.length : Int))) then
      bif a0.Cond_Range_Weak then
        (mandolineref05_Strong.f (api_Tag.mk a0.Cond_Range_Text true) (api_Tag.mk a1.Tag_Text a1.Tag_Weak)).bind fun x33 =>
        bif x33 then
          some 1
        else
          some 2
      else
        some 1
    else
      some 1
  else
    bif (decide ((0 : Int) < (a0.Specs.length : Int))) then
      (mandolineref05_Strong.f (api_Tag.mk a0.Cond_Range_Text a0.Cond_Range_Weak) (api_Tag.mk a1.Tag_Text a1.Tag_Weak)).bind fun x27 =>
      bif x27 then
        some 1
      else
        some 2
    else
      some 1
set_option maxHeartbeats 4000000 in
theorem mandolineref08_Check.k1_ok (a0 : api_Request) (a1 : api_Meta) (e : Env) (H : Heap) (g3_22 : e 3 = (.ptr [3] 1 0 0)) (g4_22 : e 4 = (.ptr [4] 1 0 0)) (g7_22 : e 7 = (.ptr [7] 1 0 0)) (k3_22 : H [3] = (1, some ⟨false, false, 11, [(.agg [(.bool a0.Head), (.str a0.Object), (.sl (encL api_Spec.enc a0.Specs)), (.sl (encL api_Tag.enc a0.Cond_Match)), (.sl (encL api_Tag.enc a0.Cond_None)), (.bool false), (.bool false), (.int .i64 a0.Cond_Since), (.int .i64 a0.Cond_Unless), (.str a0.Cond_Range_Text), (.bool a0.Cond_Range_Weak)])]⟩)) (k4_22 : H [4] = (1, some ⟨false, false, 11, [(.agg [(.str a1.Tag_Text), (.bool a1.Tag_Weak), (.int .i64 a1.Modified), (.int .i64 a1.Length), (.int .i64 a1.Have), (.int .i64 a1.Fresh), (.int .i64 a1.While), (.int .i64 a1.Error), (.sl (encL AV.str a1.Keys)), (.str a1.Tenant), (.bool a1.Keep)])]⟩)) (k7_22 : H [7] = (1, some ⟨false, false, 8, [(.agg [(.sl (encL api_Tag.enc a0.Cond_Match)), (.sl (encL api_Tag.enc a0.Cond_None)), (.bool false), (.bool false), (.int .i64 a0.Cond_Since), (.int .i64 a0.Cond_Unless), (.str a0.Cond_Range_Text), (.bool a0.Cond_Range_Weak)])]⟩)) :
    runL X [] (finS [Res.t 6]) (.c c9_k0 :: []) e H = Option.map (AV.int .i64) (mandolineref08_Check.k1 a0 a1) := by
  simp only [D, DT, reduceIte, reduceCtorEq, Nat.reduceEqDiff, Nat.reduceAdd, Nat.reduceLT, Nat.reduceLeDiff, Nat.reduceBEq, Int.reduceLE, Int.reduceLT, Int.reduceEq, Int.reduceNeg, mandolineref08_Check.k1, g3_22, g4_22, g7_22, k3_22, k4_22, k7_22, c9_k0]
  cases h23 : (a0.Cond_Range_Text == [])
  · simp only [D, DT, reduceIte, reduceCtorEq, Nat.reduceEqDiff, Nat.reduceAdd, Nat.reduceLT, Nat.reduceLeDiff, Nat.reduceBEq, Int.reduceLE, Int.reduceLT, Int.reduceEq, Int.reduceNeg, g3_22, g4_22, g7_22, k3_22, k4_22, k7_22, c9_k0, h23]
    cases h24 : (decide ((0 : Int) < (a0.Specs.length : Int)))
    · simp only [D, DT, reduceIte, reduceCtorEq, Nat.reduceEqDiff, Nat.reduceAdd, Nat.reduceLT, Nat.reduceLeDiff, Nat.reduceBEq, Int.reduceLE, Int.reduceLT, Int.reduceEq, Int.reduceNeg, g3_22, g4_22, g7_22, k3_22, k4_22, k7_22, c9_k0, h23, h24]
      try rfl
    · simp only [D, DT, reduceIte, reduceCtorEq, Nat.reduceEqDiff, Nat.reduceAdd, Nat.reduceLT, Nat.reduceLeDiff, Nat.reduceBEq, Int.reduceLE, Int.reduceLT, Int.reduceEq, Int.reduceNeg, g3_22, g4_22, g7_22, k3_22, k4_22, k7_22, c9_k0, h23, h24]
      have c25 : ansL X 16 [(.agg [(.str a0.Cond_Range_Text), (.bool a0.Cond_Range_Weak)]), (.agg [(.str a1.Tag_Text), (.bool a1.Tag_Weak)])] = Option.map AV.bool (mandolineref05_Strong.f (api_Tag.mk a0.Cond_Range_Text a0.Cond_Range_Weak) (api_Tag.mk a1.Tag_Text a1.Tag_Weak)) := mandolineref05_Strong.ok (api_Tag.mk a0.Cond_Range_Text a0.Cond_Range_Weak) (api_Tag.mk a1.Tag_Text a1.Tag_Weak)
      rcases h26 : mandolineref05_Strong.f (api_Tag.mk a0.Cond_Range_Text a0.Cond_Range_Weak) (api_Tag.mk a1.Tag_Text a1.Tag_Weak) with _ | x27
      · simp only [D, DT, reduceIte, reduceCtorEq, Nat.reduceEqDiff, Nat.reduceAdd, Nat.reduceLT, Nat.reduceLeDiff, Nat.reduceBEq, Int.reduceLE, Int.reduceLT, Int.reduceEq, Int.reduceNeg, g3_22, g4_22, g7_22, k3_22, k4_22, k7_22, c9_k0, h23, h24, c25, h26]
      · simp only [D, DT, reduceIte, reduceCtorEq, Nat.reduceEqDiff, Nat.reduceAdd, Nat.reduceLT, Nat.reduceLeDiff, Nat.reduceBEq, Int.reduceLE, Int.reduceLT, Int.reduceEq, Int.reduceNeg, g3_22, g4_22, g7_22, k3_22, k4_22, k7_22, c9_k0, h23, h24, c25, h26]
        cases h28 : x27
        · simp only [D, DT, reduceIte, reduceCtorEq, Nat.reduceEqDiff, Nat.reduceAdd, Nat.reduceLT, Nat.reduceLeDiff, Nat.reduceBEq, Int.reduceLE, Int.reduceLT, Int.reduceEq, Int.reduceNeg, g3_22, g4_22, g7_22, k3_22, k4_22, k7_22, c9_k0, h23, h24, c25, h26, h28]
          try rfl
        · simp only [D, DT, reduceIte, reduceCtorEq, Nat.reduceEqDiff, Nat.reduceAdd, Nat.reduceLT, Nat.reduceLeDiff, Nat.reduceBEq, Int.reduceLE, Int.reduceLT, Int.reduceEq, Int.reduceNeg, g3_22, g4_22, g7_22, k3_22, k4_22, k7_22, c9_k0, h23, h24, c25, h26, h28]
          try rfl
  · simp only [D, DT, reduceIte, reduceCtorEq, Nat.reduceEqDiff, Nat.reduceAdd, Nat.reduceLT, Nat.reduceLeDiff, Nat.reduceBEq, Int.reduceLE, Int.reduceLT, Int.reduceEq, Int.reduceNeg, g3_22, g4_22, g7_22, k3_22, k4_22, k7_22, c9_k0, h23]
    cases h29 : (decide ((0 : Int) < (a0.Specs.length : Int)))
    · simp only [D, DT, reduceIte, reduceCtorEq, Nat.reduceEqDiff, Nat.reduceAdd, Nat.reduceLT, Nat.reduceLeDiff, Nat.reduceBEq, Int.reduceLE, Int.reduceLT, Int.reduceEq, Int.reduceNeg, g3_22, g4_22, g7_22, k3_22, k4_22, k7_22, c9_k0, h23, h29]
      try rfl
    · simp only [D, DT, reduceIte, reduceCtorEq, Nat.reduceEqDiff, Nat.reduceAdd, Nat.reduceLT, Nat.reduceLeDiff, Nat.reduceBEq, Int.reduceLE, Int.reduceLT, Int.reduceEq, Int.reduceNeg, g3_22, g4_22, g7_22, k3_22, k4_22, k7_22, c9_k0, h23, h29]
      cases h30 : a0.Cond_Range_Weak
      · simp only [D, DT, reduceIte, reduceCtorEq, Nat.reduceEqDiff, Nat.reduceAdd, Nat.reduceLT, Nat.reduceLeDiff, Nat.reduceBEq, Int.reduceLE, Int.reduceLT, Int.reduceEq, Int.reduceNeg, g3_22, g4_22, g7_22, k3_22, k4_22, k7_22, c9_k0, h23, h29, h30]
        try rfl
      · simp only [D, DT, reduceIte, reduceCtorEq, Nat.reduceEqDiff, Nat.reduceAdd, Nat.reduceLT, Nat.reduceLeDiff, Nat.reduceBEq, Int.reduceLE, Int.reduceLT, Int.reduceEq, Int.reduceNeg, g3_22, g4_22, g7_22, k3_22, k4_22, k7_22, c9_k0, h23, h29, h30]
        have c31 : ansL X 16 [(.agg [(.str a0.Cond_Range_Text), (.bool true)]), (.agg [(.str a1.Tag_Text), (.bool a1.Tag_Weak)])] = Option.map AV.bool (mandolineref05_Strong.f (api_Tag.mk a0.Cond_Range_Text true) (api_Tag.mk a1.Tag_Text a1.Tag_Weak)) := mandolineref05_Strong.ok (api_Tag.mk a0.Cond_Range_Text true) (api_Tag.mk a1.Tag_Text a1.Tag_Weak)
        rcases h32 : mandolineref05_Strong.f (api_Tag.mk a0.Cond_Range_Text true) (api_Tag.mk a1.Tag_Text a1.Tag_Weak) with _ | x33
        · simp only [D, DT, reduceIte, reduceCtorEq, Nat.reduceEqDiff, Nat.reduceAdd, Nat.reduceLT, Nat.reduceLeDiff, Nat.reduceBEq, Int.reduceLE, Int.reduceLT, Int.reduceEq, Int.reduceNeg, g3_22, g4_22, g7_22, k3_22, k4_22, k7_22, c9_k0, h23, h29, h30, c31, h32]
        · simp only [D, DT, reduceIte, reduceCtorEq, Nat.reduceEqDiff, Nat.reduceAdd, Nat.reduceLT, Nat.reduceLeDiff, Nat.reduceBEq, Int.reduceLE, Int.reduceLT, Int.reduceEq, Int.reduceNeg, g3_22, g4_22, g7_22, k3_22, k4_22, k7_22, c9_k0, h23, h29, h30, c31, h32]
          cases h34 : x33
          · simp only [D, DT, reduceIte, reduceCtorEq, Nat.reduceEqDiff, Nat.reduceAdd, Nat.reduceLT, Nat.reduceLeDiff, Nat.reduceBEq, Int.reduceLE, Int.reduceLT, Int.reduceEq, Int.reduceNeg, g3_22, g4_22, g7_22, k3_22, k4_22, k7_22, c9_k0, h23, h29, h30, c31, h32, h34]
            try rfl
          · simp only [D, DT, reduceIte, reduceCtorEq, Nat.reduceEqDiff, Nat.reduceAdd, Nat.reduceLT, Nat.reduceLeDiff, Nat.reduceBEq, Int.reduceLE, Int.reduceLT, Int.reduceEq, Int.reduceNeg, g3_22, g4_22, g7_22, k3_22, k4_22, k7_22, c9_k0, h23, h29, h30, c31, h32, h34]
            try rfl
noncomputable def mandolineref08_Check.k0 (a0 : api_Request) (a1 : api_Meta) (v11_2 : Bool) : Option Int :=
  bif v11_2 then
    bif a0.Cond_AnyNone then
      some 3
    else
      bif (decide ((0 : Int) < (a0.Cond_None.length : Int))) then
        (mandolineref08_one.f a0.Cond_None (api_Tag.mk a1.Tag_Text a1.Tag_Weak) false).bind fun x42 =>
        bif x42 then
          some 3
        else
          mandolineref08_Check.k1 a0 a1
      else
        bif (decide ((0 : Int) ≤ a0.Cond_Since)) then
          bif (decide (a1.Length = (-1))) then
            mandolineref08_Check.k1 a0 a1
          else
            bif (decide ((0 : Int) ≤ a1.Modified)) then
              bif (decide (a1.Modified ≤ a0.Cond_Since)) then
                some 3
              else
                mandolineref08_Check.k1 a0 a1
            else
              mandolineref08_Check.k1 a0 a1
        else
          mandolineref08_Check.k1 a0 a1
  else
    some 1
set_option maxHeartbeats 4000000 in
theorem mandolineref08_Check.k0_ok (a0 : api_Request) (a1 : api_Meta) (v11_2 : Bool) (e : Env) (H : Heap) (g2_11 : e 2 = (.bool v11_2)) (g3_11 : e 3 = (.ptr [3] 1 0 0)) (g4_11 : e 4 = (.ptr [4] 1 0 0)) (g7_11 : e 7 = (.ptr [7] 1 0 0)) (k3_11 : H [3] = (1, some ⟨false, false, 11, [(.agg [(.bool a0.Head), (.str a0.Object), (.sl (encL api_Spec.enc a0.Specs)), (.sl (encL api_Tag.enc a0.Cond_Match)), (.sl (encL api_Tag.enc a0.Cond_None)), (.bool false), (.bool a0.Cond_AnyNone), (.int .i64 a0.Cond_Since), (.int .i64 a0.Cond_Unless), (.str a0.Cond_Range_Text), (.bool a0.Cond_Range_Weak)])]⟩)) (k4_11 : H [4] = (1, some ⟨false, false, 11, [(.agg [(.str a1.Tag_Text), (.bool a1.Tag_Weak), (.int .i64 a1.Modified), (.int .i64 a1.Length), (.int .i64 a1.Have), (.int .i64 a1.Fresh), (.int .i64 a1.While), (.int .i64 a1.Error), (.sl (encL AV.str a1.Keys)), (.str a1.Tenant), (.bool a1.Keep)])]⟩)) (k7_11 : H [7] = (1, some ⟨false, false, 8, [(.agg [(.sl (encL api_Tag.enc a0.Cond_Match)), (.sl (encL api_Tag.enc a0.Cond_None)), (.bool false), (.bool a0.Cond_AnyNone), (.int .i64 a0.Cond_Since), (.int .i64 a0.Cond_Unless), (.str a0.Cond_Range_Text), (.bool a0.Cond_Range_Weak)])]⟩)) :
    runL X [] (finS [Res.t 6]) (.c c9_k1 :: []) e H = Option.map (AV.int .i64) (mandolineref08_Check.k0 a0 a1 v11_2) := by
  simp only [D, DT, reduceIte, reduceCtorEq, Nat.reduceEqDiff, Nat.reduceAdd, Nat.reduceLT, Nat.reduceLeDiff, Nat.reduceBEq, Int.reduceLE, Int.reduceLT, Int.reduceEq, Int.reduceNeg, mandolineref08_Check.k0, g2_11, g3_11, g4_11, g7_11, k3_11, k4_11, k7_11, c9_k1]
  cases h12 : v11_2
  · simp only [D, DT, reduceIte, reduceCtorEq, Nat.reduceEqDiff, Nat.reduceAdd, Nat.reduceLT, Nat.reduceLeDiff, Nat.reduceBEq, Int.reduceLE, Int.reduceLT, Int.reduceEq, Int.reduceNeg, g2_11, g3_11, g4_11, g7_11, k3_11, k4_11, k7_11, c9_k1, h12]
    try rfl
  · simp only [D, DT, reduceIte, reduceCtorEq, Nat.reduceEqDiff, Nat.reduceAdd, Nat.reduceLT, Nat.reduceLeDiff, Nat.reduceBEq, Int.reduceLE, Int.reduceLT, Int.reduceEq, Int.reduceNeg, g2_11, g3_11, g4_11, g7_11, k3_11, k4_11, k7_11, c9_k1, h12]
    cases h13 : a0.Cond_AnyNone
    · simp only [D, DT, reduceIte, reduceCtorEq, Nat.reduceEqDiff, Nat.reduceAdd, Nat.reduceLT, Nat.reduceLeDiff, Nat.reduceBEq, Int.reduceLE, Int.reduceLT, Int.reduceEq, Int.reduceNeg, g2_11, g3_11, g4_11, g7_11, k3_11, k4_11, k7_11, c9_k1, h12, h13]
      cases h35 : (decide ((0 : Int) < (a0.Cond_None.length : Int)))
      · simp only [D, DT, reduceIte, reduceCtorEq, Nat.reduceEqDiff, Nat.reduceAdd, Nat.reduceLT, Nat.reduceLeDiff, Nat.reduceBEq, Int.reduceLE, Int.reduceLT, Int.reduceEq, Int.reduceNeg, g2_11, g3_11, g4_11, g7_11, k3_11, k4_11, k7_11, c9_k1, h12, h13, h35]
        cases h36 : (decide ((0 : Int) ≤ a0.Cond_Since))
        · simp only [D, DT, reduceIte, reduceCtorEq, Nat.reduceEqDiff, Nat.reduceAdd, Nat.reduceLT, Nat.reduceLeDiff, Nat.reduceBEq, Int.reduceLE, Int.reduceLT, Int.reduceEq, Int.reduceNeg, g2_11, g3_11, g4_11, g7_11, k3_11, k4_11, k7_11, c9_k1, h12, h13, h35, h36]
          exact mandolineref08_Check.k1_ok a0 a1 _ _ (by first | (simp only [D, DT, reduceIte, reduceCtorEq, Nat.reduceEqDiff, Nat.reduceAdd, Nat.reduceLT, Nat.reduceLeDiff, Nat.reduceBEq, Int.reduceLE, Int.reduceLT, Int.reduceEq, Int.reduceNeg, g2_11, g3_11, g4_11, g7_11, k3_11, k4_11, k7_11, c9_k1, h12, h13, h35, h36] <;> rfl) | rfl) (by first | (simp only [D, DT, reduceIte, reduceCtorEq, Nat.reduceEqDiff, Nat.reduceAdd, Nat.reduceLT, Nat.reduceLeDiff, Nat.reduceBEq, Int.reduceLE, Int.reduceLT, Int.reduceEq, Int.reduceNeg, g2_11, g3_11, g4_11, g7_11, k3_11, k4_11, k7_11, c9_k1, h12, h13, h35, h36] <;> rfl) | rfl) (by first | (simp only [D, DT, reduceIte, reduceCtorEq, Nat.reduceEqDiff, Nat.reduceAdd, Nat.reduceLT, Nat.reduceLeDiff, Nat.reduceBEq, Int.reduceLE, Int.reduceLT, Int.reduceEq, Int.reduceNeg, g2_11, g3_11, g4_11, g7_11, k3_11, k4_11, k7_11, c9_k1, h12, h13, h35, h36] <;> rfl) | rfl) (by first | (simp only [D, DT, reduceIte, reduceCtorEq, Nat.reduceEqDiff, Nat.reduceAdd, Nat.reduceLT, Nat.reduceLeDiff, Nat.reduceBEq, Int.reduceLE, Int.reduceLT, Int.reduceEq, Int.reduceNeg, g2_11, g3_11, g4_11, g7_11, k3_11, k4_11, k7_11, c9_k1, h12, h13, h35, h36] <;> rfl) | rfl) (by first | (simp only [D, DT, reduceIte, reduceCtorEq, Nat.reduceEqDiff, Nat.reduceAdd, Nat.reduceLT, Nat.reduceLeDiff, Nat.reduceBEq, Int.reduceLE, Int.reduceLT, Int.reduceEq, Int.reduceNeg, g2_11, g3_11, g4_11, g7_11, k3_11, k4_11, k7_11, c9_k1, h12, h13, h35, h36] <;> rfl) | rfl) (by first | (simp only [D, DT, reduceIte, reduceCtorEq, Nat.reduceEqDiff, Nat.reduceAdd, Nat.reduceLT, Nat.reduceLeDiff, Nat.reduceBEq, Int.reduceLE, Int.reduceLT, Int.reduceEq, Int.reduceNeg, g2_11, g3_11, g4_11, g7_11, k3_11, k4_11, k7_11, c9_k1, h12, h13, h35, h36] <;> rfl) | rfl)
        · simp only [D, DT, reduceIte, reduceCtorEq, Nat.reduceEqDiff, Nat.reduceAdd, Nat.reduceLT, Nat.reduceLeDiff, Nat.reduceBEq, Int.reduceLE, Int.reduceLT, Int.reduceEq, Int.reduceNeg, g2_11, g3_11, g4_11, g7_11, k3_11, k4_11, k7_11, c9_k1, h12, h13, h35, h36]
          cases h37 : (decide (a1.Length = (-1)))
          · simp only [D, DT, reduceIte, reduceCtorEq, Nat.reduceEqDiff, Nat.reduceAdd, Nat.reduceLT, Nat.reduceLeDiff, Nat.reduceBEq, Int.reduceLE, Int.reduceLT, Int.reduceEq, Int.reduceNeg, g2_11, g3_11, g4_11, g7_11, k3_11, k4_11, k7_11, c9_k1, h12, h13, h35, h36, h37]
            cases h38 : (decide ((0 : Int) ≤ a1.Modified))
            · simp only [D, DT, reduceIte, reduceCtorEq, Nat.reduceEqDiff, Nat.reduceAdd, Nat.reduceLT, Nat.reduceLeDiff, Nat.reduceBEq, Int.reduceLE, Int.reduceLT, Int.reduceEq, Int.reduceNeg, g2_11, g3_11, g4_11, g7_11, k3_11, k4_11, k7_11, c9_k1, h12, h13, h35, h36, h37, h38]
              exact mandolineref08_Check.k1_ok a0 a1 _ _ (by first | (simp only [D, DT, reduceIte, reduceCtorEq, Nat.reduceEqDiff, Nat.reduceAdd, Nat.reduceLT, Nat.reduceLeDiff, Nat.reduceBEq, Int.reduceLE, Int.reduceLT, Int.reduceEq, Int.reduceNeg, g2_11, g3_11, g4_11, g7_11, k3_11, k4_11, k7_11, c9_k1, h12, h13, h35, h36, h37, h38] <;> rfl) | rfl) (by first | (simp only [D, DT, reduceIte, reduceCtorEq, Nat.reduceEqDiff, Nat.reduceAdd, Nat.reduceLT, Nat.reduceLeDiff, Nat.reduceBEq, Int.reduceLE, Int.reduceLT, Int.reduceEq, Int.reduceNeg, g2_11, g3_11, g4_11, g7_11, k3_11, k4_11, k7_11, c9_k1, h12, h13, h35, h36, h37, h38] <;> rfl) | rfl) (by first | (simp only [D, DT, reduceIte, reduceCtorEq, Nat.reduceEqDiff, Nat.reduceAdd, Nat.reduceLT, Nat.reduceLeDiff, Nat.reduceBEq, Int.reduceLE, Int.reduceLT, Int.reduceEq, Int.reduceNeg, g2_11, g3_11, g4_11, g7_11, k3_11, k4_11, k7_11, c9_k1, h12, h13, h35, h36, h37, h38] <;> rfl) | rfl) (by first | (simp only [D, DT, reduceIte, reduceCtorEq, Nat.reduceEqDiff, Nat.reduceAdd, Nat.reduceLT, Nat.reduceLeDiff, Nat.reduceBEq, Int.reduceLE, Int.reduceLT, Int.reduceEq, Int.reduceNeg, g2_11, g3_11, g4_11, g7_11, k3_11, k4_11, k7_11, c9_k1, h12, h13, h35, h36, h37, h38] <;> rfl) | rfl) (by first | (simp only [D, DT, reduceIte, reduceCtorEq, Nat.reduceEqDiff, Nat.reduceAdd, Nat.reduceLT, Nat.reduceLeDiff, Nat.reduceBEq, Int.reduceLE, Int.reduceLT, Int.reduceEq, Int.reduceNeg, g2_11, g3_11, g4_11, g7_11, k3_11, k4_11, k7_11, c9_k1, h12, h13, h35, h36, h37, h38] <;> rfl) | rfl) (by first | (simp only [D, DT, reduceIte, reduceCtorEq, Nat.reduceEqDiff, Nat.reduceAdd, Nat.reduceLT, Nat.reduceLeDiff, Nat.reduceBEq, Int.reduceLE, Int.reduceLT, Int.reduceEq, Int.reduceNeg, g2_11, g3_11, g4_11, g7_11, k3_11, k4_11, k7_11, c9_k1, h12, h13, h35, h36, h37, h38] <;> rfl) | rfl)
            · simp only [D, DT, reduceIte, reduceCtorEq, Nat.reduceEqDiff, Nat.reduceAdd, Nat.reduceLT, Nat.reduceLeDiff, Nat.reduceBEq, Int.reduceLE, Int.reduceLT, Int.reduceEq, Int.reduceNeg, g2_11, g3_11, g4_11, g7_11, k3_11, k4_11, k7_11, c9_k1, h12, h13, h35, h36, h37, h38]
              cases h39 : (decide (a1.Modified ≤ a0.Cond_Since))
              · simp only [D, DT, reduceIte, reduceCtorEq, Nat.reduceEqDiff, Nat.reduceAdd, Nat.reduceLT, Nat.reduceLeDiff, Nat.reduceBEq, Int.reduceLE, Int.reduceLT, Int.reduceEq, Int.reduceNeg, g2_11, g3_11, g4_11, g7_11, k3_11, k4_11, k7_11, c9_k1, h12, h13, h35, h36, h37, h38, h39]
                exact mandolineref08_Check.k1_ok a0 a1 _ _ (by first | (simp only [D, DT, reduceIte, reduceCtorEq, Nat.reduceEqDiff, Nat.reduceAdd, Nat.reduceLT, Nat.reduceLeDiff, Nat.reduceBEq, Int.reduceLE, Int.reduceLT, Int.reduceEq, Int.reduceNeg, g2_11, g3_11, g4_11, g7_11, k3_11, k4_11, k7_11, c9_k1, h12, h13, h35, h36, h37, h38, h39] <;> rfl) | rfl) (by first | (simp only [D, DT, reduceIte, reduceCtorEq, Nat.reduceEqDiff, Nat.reduceAdd, Nat.reduceLT, Nat.reduceLeDiff, Nat.reduceBEq, Int.reduceLE, Int.reduceLT, Int.reduceEq, Int.reduceNeg, g2_11, g3_11, g4_11, g7_11, k3_11, k4_11, k7_11, c9_k1, h12, h13, h35, h36, h37, h38, h39] <;> rfl) | rfl) (by first | (simp only [D, DT, reduceIte, reduceCtorEq, Nat.reduceEqDiff, Nat.reduceAdd, Nat.reduceLT, Nat.reduceLeDiff, Nat.reduceBEq, Int.reduceLE, Int.reduceLT, Int.reduceEq, Int.reduceNeg, g2_11, g3_11, g4_11, g7_11, k3_11, k4_11, k7_11, c9_k1, h12, h13, h35, h36, h37, h38, h39] <;> rfl) | rfl) (by first | (simp only [D, DT, reduceIte, reduceCtorEq, Nat.reduceEqDiff, Nat.reduceAdd, Nat.reduceLT, Nat.reduceLeDiff, Nat.reduceBEq, Int.reduceLE, Int.reduceLT, Int.reduceEq, Int.reduceNeg, g2_11, g3_11, g4_11, g7_11, k3_11, k4_11, k7_11, c9_k1, h12, h13, h35, h36, h37, h38, h39] <;> rfl) | rfl) (by first | (simp only [D, DT, reduceIte, reduceCtorEq, Nat.reduceEqDiff, Nat.reduceAdd, Nat.reduceLT, Nat.reduceLeDiff, Nat.reduceBEq, Int.reduceLE, Int.reduceLT, Int.reduceEq, Int.reduceNeg, g2_11, g3_11, g4_11, g7_11, k3_11, k4_11, k7_11, c9_k1, h12, h13, h35, h36, h37, h38, h39] <;> rfl) | rfl) (by first | (simp only [D, DT, reduceIte, reduceCtorEq, Nat.reduceEqDiff, Nat.reduceAdd, Nat.reduceLT, Nat.reduceLeDiff, Nat.reduceBEq, Int.reduceLE, Int.reduceLT, Int.reduceEq, Int.reduceNeg, g2_11, g3_11, g4_11, g7_11, k3_11, k4_11, k7_11, c9_k1, h12, h13, h35, h36, h37, h38, h39] <;> rfl) | rfl)
              · simp only [D, DT, reduceIte, reduceCtorEq, Nat.reduceEqDiff, Nat.reduceAdd, Nat.reduceLT, Nat.reduceLeDiff, Nat.reduceBEq, Int.reduceLE, Int.reduceLT, Int.reduceEq, Int.reduceNeg, g2_11, g3_11, g4_11, g7_11, k3_11, k4_11, k7_11, c9_k1, h12, h13, h35, h36, h37, h38, h39]
                try rfl
          · simp only [D, DT, reduceIte, reduceCtorEq, Nat.reduceEqDiff, Nat.reduceAdd, Nat.reduceLT, Nat.reduceLeDiff, Nat.reduceBEq, Int.reduceLE, Int.reduceLT, Int.reduceEq, Int.reduceNeg, g2_11, g3_11, g4_11, g7_11, k3_11, k4_11, k7_11, c9_k1, h12, h13, h35, h36, h37]
            exact mandolineref08_Check.k1_ok a0 a1 _ _ (by first | (simp only [D, DT, reduceIte, reduceCtorEq, Nat.reduceEqDiff, Nat.reduceAdd, Nat.reduceLT, Nat.reduceLeDiff, Nat.reduceBEq, Int.reduceLE, Int.reduceLT, Int.reduceEq, Int.reduceNeg, g2_11, g3_11, g4_11, g7_11, k3_11, k4_11, k7_11, c9_k1, h12, h13, h35, h36, h37] <;> rfl) | rfl) (by first | (simp only [D, DT, reduceIte, reduceCtorEq, Nat.reduceEqDiff, Nat.reduceAdd, Nat.reduceLT, Nat.reduceLeDiff, Nat.reduceBEq, Int.reduceLE, Int.reduceLT, Int.reduceEq, Int.reduceNeg, g2_11, g3_11, g4_11, g7_11, k3_11, k4_11, k7_11, c9_k1, h12, h13, h35, h36, h37] <;> rfl) | rfl) (by first | (simp only [D, DT, reduceIte, reduceCtorEq, Nat.reduceEqDiff, Nat.reduceAdd, Nat.reduceLT, Nat.reduceLeDiff, Nat.reduceBEq, Int.reduceLE, Int.reduceLT, Int.reduceEq, Int.reduceNeg, g2_11, g3_11, g4_11, g7_11, k3_11, k4_11, k7_11, c9_k1, h12, h13, h35, h36, h37] <;> rfl) | rfl) (by first | (simp only [D, DT, reduceIte, reduceCtorEq, Nat.reduceEqDiff, Nat.reduceAdd, Nat.reduceLT, Nat.reduceLeDiff, Nat.reduceBEq, Int.reduceLE, Int.reduceLT, Int.reduceEq, Int.reduceNeg, g2_11, g3_11, g4_11, g7_11, k3_11, k4_11, k7_11, c9_k1, h12, h13, h35, h36, h37] <;> rfl) | rfl) (by first | (simp only [D, DT, reduceIte, reduceCtorEq, Nat.reduceEqDiff, Nat.reduceAdd, Nat.reduceLT, Nat.reduceLeDiff, Nat.reduceBEq, Int.reduceLE, Int.reduceLT, Int.reduceEq, Int.reduceNeg, g2_11, g3_11, g4_11, g7_11, k3_11, k4_11, k7_11, c9_k1, h12, h13, h35, h36, h37] <;> rfl) | rfl) (by first | (simp only [D, DT, reduceIte, reduceCtorEq, Nat.reduceEqDiff, Nat.reduceAdd, Nat.reduceLT, Nat.reduceLeDiff, Nat.reduceBEq, Int.reduceLE, Int.reduceLT, Int.reduceEq, Int.reduceNeg, g2_11, g3_11, g4_11, g7_11, k3_11, k4_11, k7_11, c9_k1, h12, h13, h35, h36, h37] <;> rfl) | rfl)
      · simp only [D, DT, reduceIte, reduceCtorEq, Nat.reduceEqDiff, Nat.reduceAdd, Nat.reduceLT, Nat.reduceLeDiff, Nat.reduceBEq, Int.reduceLE, Int.reduceLT, Int.reduceEq, Int.reduceNeg, g2_11, g3_11, g4_11, g7_11, k3_11, k4_11, k7_11, c9_k1, h12, h13, h35]
        have c40 : ansL X 15 [(.sl (encL api_Tag.enc a0.Cond_None)), (.agg [(.str a1.Tag_Text), (.bool a1.Tag_Weak)]), (.bool false)] = Option.map AV.bool (mandolineref08_one.f a0.Cond_None (api_Tag.mk a1.Tag_Text a1.Tag_Weak) false) := mandolineref08_one.ok a0.Cond_None (api_Tag.mk a1.Tag_Text a1.Tag_Weak) false
        rcases h41 : mandolineref08_one.f a0.Cond_None (api_Tag.mk a1.Tag_Text a1.Tag_Weak) false with _ | x42
        · simp only [D, DT, reduceIte, reduceCtorEq, Nat.reduceEqDiff, Nat.reduceAdd, Nat.reduceLT, Nat.reduceLeDiff, Nat.reduceBEq, Int.reduceLE, Int.reduceLT, Int.reduceEq, Int.reduceNeg, g2_11, g3_11, g4_11, g7_11, k3_11, k4_11, k7_11, c9_k1, h12, h13, h35, c40, h41]
        · simp only [D, DT, reduceIte, reduceCtorEq, Nat.reduceEqDiff, Nat.reduceAdd, Nat.reduceLT, Nat.reduceLeDiff, Nat.reduceBEq, Int.reduceLE, Int.reduceLT, Int.reduceEq, Int.reduceNeg, g2_11, g3_11, g4_11, g7_11, k3_11, k4_11, k7_11, c9_k1, h12, h13, h35, c40, h41]
          cases h43 : x42
          · simp only [D, DT, reduceIte, reduceCtorEq, Nat.reduceEqDiff, Nat.reduceAdd, Nat.reduceLT, Nat.reduceLeDiff, Nat.reduceBEq, Int.reduceLE, Int.reduceLT, Int.reduceEq, Int.reduceNeg, g2_11, g3_11, g4_11, g7_11, k3_11, k4_11, k7_11, c9_k1, h12, h13, h35, c40, h41, h43]
            exact mandolineref08_Check.k1_ok a0 a1 _ _ (by first | (simp only [D, DT, reduceIte, reduceCtorEq, Nat.reduceEqDiff, Nat.reduceAdd, Nat.reduceLT, Nat.reduceLeDiff, Nat.reduceBEq, Int.reduceLE, Int.reduceLT, Int.reduceEq, Int.reduceNeg, g2_11, g3_11, g4_11, g7_11, k3_11, k4_11, k7_11, c9_k1, h12, h13, h35, c40, h41, h43] <;> rfl) | rfl) (by first | (simp only [D, DT, reduceIte, reduceCtorEq, Nat.reduceEqDiff, Nat.reduceAdd, Nat.reduceLT, Nat.reduceLeDiff, Nat.reduceBEq, Int.reduceLE, Int.reduceLT, Int.reduceEq, Int.reduceNeg, g2_11, g3_11, g4_11, g7_11, k3_11, k4_11, k7_11, c9_k1, h12, h13, h35, c40, h41, h43] <;> rfl) | rfl) (by first | (simp only [D, DT, reduceIte, reduceCtorEq, Nat.reduceEqDiff, Nat.reduceAdd, Nat.reduceLT, Nat.reduceLeDiff, Nat.reduceBEq, Int.reduceLE, Int.reduceLT, Int.reduceEq, Int.reduceNeg, g2_11, g3_11, g4_11, g7_11, k3_11, k4_11, k7_11, c9_k1, h12, h13, h35, c40, h41, h43] <;> rfl) | rfl) (by first | (simp only [D, DT, reduceIte, reduceCtorEq, Nat.reduceEqDiff, Nat.reduceAdd, Nat.reduceLT, Nat.reduceLeDiff, Nat.reduceBEq, Int.reduceLE, Int.reduceLT, Int.reduceEq, Int.reduceNeg, g2_11, g3_11, g4_11, g7_11, k3_11, k4_11, k7_11, c9_k1, h12, h13, h35, c40, h41, h43] <;> rfl) | rfl) (by first | (simp only [D, DT, reduceIte, reduceCtorEq, Nat.reduceEqDiff, Nat.reduceAdd, Nat.reduceLT, Nat.reduceLeDiff, Nat.reduceBEq, Int.reduceLE, Int.reduceLT, Int.reduceEq, Int.reduceNeg, g2_11, g3_11, g4_11, g7_11, k3_11, k4_11, k7_11, c9_k1, h12, h13, h35, c40, h41, h43] <;> rfl) | rfl) (by first | (simp only [D, DT, reduceIte, reduceCtorEq, Nat.reduceEqDiff, Nat.reduceAdd, Nat.reduceLT, Nat.reduceLeDiff, Nat.reduceBEq, Int.reduceLE, Int.reduceLT, Int.reduceEq, Int.reduceNeg, g2_11, g3_11, g4_11, g7_11, k3_11, k4_11, k7_11, c9_k1, h12, h13, h35, c40, h41, h43] <;> rfl) | rfl)
          · simp only [D, DT, reduceIte, reduceCtorEq, Nat.reduceEqDiff, Nat.reduceAdd, Nat.reduceLT, Nat.reduceLeDiff, Nat.reduceBEq, Int.reduceLE, Int.reduceLT, Int.reduceEq, Int.reduceNeg, g2_11, g3_11, g4_11, g7_11, k3_11, k4_11, k7_11, c9_k1, h12, h13, h35, c40, h41, h43]
            try rfl
    · simp only [D, DT, reduceIte, reduceCtorEq, Nat.reduceEqDiff, Nat.reduceAdd, Nat.reduceLT, Nat.reduceLeDiff, Nat.reduceBEq, Int.reduceLE, Int.reduceLT, Int.reduceEq, Int.reduceNeg, g2_11, g3_11, g4_11, g7_11, k3_11, k4_11, k7_11, c9_k1, h12, h13]
      try rfl
noncomputable def mandolineref08_Check.k2 (a0 : api_Request) (a1 : api_Meta) : Option Int :=
  bif (a0.Cond_Range_Text == []) then
    bif (decide ((0 : Int) < (a0.Specs.length : Int))) then
      bif a0.Cond_Range_Weak then
        (mandolineref05_Strong.f (api_Tag.mk a0.Cond_Range_Text true) (api_Tag.mk a1.Tag_Text a1.Tag_Weak)).bind fun x75 =>
        bif x75 then
          some 1
        else
          some 2
      else
        some 1
    else
      some 1
  else
    bif (decide ((0 : Int) < (a0.Specs.length : Int))) then
      (mandolineref05_Strong.f (api_Tag.mk a0.Cond_Range_Text a0.Cond_Range_Weak) (api_Tag.mk a1.Tag_Text a1.Tag_Weak)).bind fun x69 =>
      bif x69 then
        some 1
      else
        some 2
    else
      some 1
set_option maxHeartbeats 4000000 in
theorem mandolineref08_Check.k2_ok (a0 : api_Request) (a1 : api_Meta) (e : Env) (H : Heap) (g3_64 : e 3 = (.ptr [3] 1 0 0)) (g4_64 : e 4 = (.ptr [4] 1 0 0)) (g7_64 : e 7 = (.ptr [7] 1 0 0)) (k3_64 : H [3] = (1, some ⟨false, false, 11, [(.agg [(.bool a0.Head), (.str a0.Object), (.sl (encL api_Spec.enc a0.Specs)), (.sl (encL api_Tag.enc a0.Cond_Match)), (.sl (encL api_Tag.enc a0.Cond_None)), (.bool true), (.bool false), (.int .i64 a0.Cond_Since), (.int .i64 a0.Cond_Unless), (.str a0.Cond_Range_Text), (.bool a0.Cond_Range_Weak)])]⟩)) (k4_64 : H [4] = (1, some ⟨false, false, 11, [(.agg [(.str a1.Tag_Text), (.bool a1.Tag_Weak), (.int .i64 a1.Modified), (.int .i64 a1.Length), (.int .i64 a1.Have), (.int .i64 a1.Fresh), (.int .i64 a1.While), (.int .i64 a1.Error), (.sl (encL AV.str a1.Keys)), (.str a1.Tenant), (.bool a1.Keep)])]⟩)) (k7_64 : H [7] = (1, some ⟨false, false, 8, [(.agg [(.sl (encL api_Tag.enc a0.Cond_Match)), (.sl (encL api_Tag.enc a0.Cond_None)), (.bool true), (.bool false), (.int .i64 a0.Cond_Since), (.int .i64 a0.Cond_Unless), (.str a0.Cond_Range_Text), (.bool a0.Cond_Range_Weak)])]⟩)) :
    runL X [] (finS [Res.t 6]) (.c c9_k0 :: []) e H = Option.map (AV.int .i64) (mandolineref08_Check.k2 a0 a1) := by
  simp only [D, DT, reduceIte, reduceCtorEq, Nat.reduceEqDiff, Nat.reduceAdd, Nat.reduceLT, Nat.reduceLeDiff, Nat.reduceBEq, Int.reduceLE, Int.reduceLT, Int.reduceEq, Int.reduceNeg, mandolineref08_Check.k2, g3_64, g4_64, g7_64, k3_64, k4_64, k7_64, c9_k0]
  cases h65 : (a0.Cond_Range_Text == [])
  · simp only [D, DT, reduceIte, reduceCtorEq, Nat.reduceEqDiff, Nat.reduceAdd, Nat.reduceLT, Nat.reduceLeDiff, Nat.reduceBEq, Int.reduceLE, Int.reduceLT, Int.reduceEq, Int.reduceNeg, g3_64, g4_64, g7_64, k3_64, k4_64, k7_64, c9_k0, h65]
    cases h66 : (decide ((0 : Int) < (a0.Specs.length : Int)))
    · simp only [D, DT, reduceIte, reduceCtorEq, Nat.reduceEqDiff, Nat.reduceAdd, Nat.reduceLT, Nat.reduceLeDiff, Nat.reduceBEq, Int.reduceLE, Int.reduceLT, Int.reduceEq, Int.reduceNeg, g3_64, g4_64, g7_64, k3_64, k4_64, k7_64, c9_k0, h65, h66]
      try rfl
    · simp only [D, DT, reduceIte, reduceCtorEq, Nat.reduceEqDiff, Nat.reduceAdd, Nat.reduceLT, Nat.reduceLeDiff, Nat.reduceBEq, Int.reduceLE, Int.reduceLT, Int.reduceEq, Int.reduceNeg, g3_64, g4_64, g7_64, k3_64, k4_64, k7_64, c9_k0, h65, h66]
      have c67 : ansL X 16 [(.agg [(.str a0.Cond_Range_Text), (.bool a0.Cond_Range_Weak)]), (.agg [(.str a1.Tag_Text), (.bool a1.Tag_Weak)])] = Option.map AV.bool (mandolineref05_Strong.f (api_Tag.mk a0.Cond_Range_Text a0.Cond_Range_Weak) (api_Tag.mk a1.Tag_Text a1.Tag_Weak)) := mandolineref05_Strong.ok (api_Tag.mk a0.Cond_Range_Text a0.Cond_Range_Weak) (api_Tag.mk a1.Tag_Text a1.Tag_Weak)
      rcases h68 : mandolineref05_Strong.f (api_Tag.mk a0.Cond_Range_Text a0.Cond_Range_Weak) (api_Tag.mk a1.Tag_Text a1.Tag_Weak) with _ | x69
      · simp only [D, DT, reduceIte, reduceCtorEq, Nat.reduceEqDiff, Nat.reduceAdd, Nat.reduceLT, Nat.reduceLeDiff, Nat.reduceBEq, Int.reduceLE, Int.reduceLT, Int.reduceEq, Int.reduceNeg, g3_64, g4_64, g7_64, k3_64, k4_64, k7_64, c9_k0, h65, h66, c67, h68]
      · simp only [D, DT, reduceIte, reduceCtorEq, Nat.reduceEqDiff, Nat.reduceAdd, Nat.reduceLT, Nat.reduceLeDiff, Nat.reduceBEq, Int.reduceLE, Int.reduceLT, Int.reduceEq, Int.reduceNeg, g3_64, g4_64, g7_64, k3_64, k4_64, k7_64, c9_k0, h65, h66, c67, h68]
        cases h70 : x69
        · simp only [D, DT, reduceIte, reduceCtorEq, Nat.reduceEqDiff, Nat.reduceAdd, Nat.reduceLT, Nat.reduceLeDiff, Nat.reduceBEq, Int.reduceLE, Int.reduceLT, Int.reduceEq, Int.reduceNeg, g3_64, g4_64, g7_64, k3_64, k4_64, k7_64, c9_k0, h65, h66, c67, h68, h70]
          try rfl
        · simp only [D, DT, reduceIte, reduceCtorEq, Nat.reduceEqDiff, Nat.reduceAdd, Nat.reduceLT, Nat.reduceLeDiff, Nat.reduceBEq, Int.reduceLE, Int.reduceLT, Int.reduceEq, Int.reduceNeg, g3_64, g4_64, g7_64, k3_64, k4_64, k7_64, c9_k0, h65, h66, c67, h68, h70]
          try rfl
  · simp only [D, DT, reduceIte, reduceCtorEq, Nat.reduceEqDiff, Nat.reduceAdd, Nat.reduceLT, Nat.reduceLeDiff, Nat.reduceBEq, Int.reduceLE, Int.reduceLT, Int.reduceEq, Int.reduceNeg, g3_64, g4_64, g7_64, k3_64, k4_64, k7_64, c9_k0, h65]
    cases h71 : (decide ((0 : Int) < (a0.Specs.length : Int)))
    · simp only [D, DT, reduceIte, reduceCtorEq, Nat.reduceEqDiff, Nat.reduceAdd, Nat.reduceLT, Nat.reduceLeDiff, Nat.reduceBEq, Int.reduceLE, Int.reduceLT, Int.reduceEq, Int.reduceNeg, g3_64, g4_64, g7_64, k3_64, k4_64, k7_64, c9_k0, h65, h71]
      try rfl
    · simp only [D, DT, reduceIte, reduceCtorEq, Nat.reduceEqDiff, Nat.reduceAdd, Nat.reduceLT, Nat.reduceLeDiff, Nat.reduceBEq, Int.reduceLE, Int.reduceLT, Int.reduceEq, Int.reduceNeg, g3_64, g4_64, g7_64, k3_64, k4_64, k7_64, c9_k0, h65, h71]
      cases h72 : a0.Cond_Range_Weak
      · simp only [D, DT, reduceIte, reduceCtorEq, Nat.reduceEqDiff, Nat.reduceAdd, Nat.reduceLT, Nat.reduceLeDiff, Nat.reduceBEq, Int.reduceLE, Int.reduceLT, Int.reduceEq, Int.reduceNeg, g3_64, g4_64, g7_64, k3_64, k4_64, k7_64, c9_k0, h65, h71, h72]
        try rfl
      · simp only [D, DT, reduceIte, reduceCtorEq, Nat.reduceEqDiff, Nat.reduceAdd, Nat.reduceLT, Nat.reduceLeDiff, Nat.reduceBEq, Int.reduceLE, Int.reduceLT, Int.reduceEq, Int.reduceNeg, g3_64, g4_64, g7_64, k3_64, k4_64, k7_64, c9_k0, h65, h71, h72]
        have c73 : ansL X 16 [(.agg [(.str a0.Cond_Range_Text), (.bool true)]), (.agg [(.str a1.Tag_Text), (.bool a1.Tag_Weak)])] = Option.map AV.bool (mandolineref05_Strong.f (api_Tag.mk a0.Cond_Range_Text true) (api_Tag.mk a1.Tag_Text a1.Tag_Weak)) := mandolineref05_Strong.ok (api_Tag.mk a0.Cond_Range_Text true) (api_Tag.mk a1.Tag_Text a1.Tag_Weak)
        rcases h74 : mandolineref05_Strong.f (api_Tag.mk a0.Cond_Range_Text true) (api_Tag.mk a1.Tag_Text a1.Tag_Weak) with _ | x75
        · simp only [D, DT, reduceIte, reduceCtorEq, Nat.reduceEqDiff, Nat.reduceAdd, Nat.reduceLT, Nat.reduceLeDiff, Nat.reduceBEq, Int.reduceLE, Int.reduceLT, Int.reduceEq, Int.reduceNeg, g3_64, g4_64, g7_64, k3_64, k4_64, k7_64, c9_k0, h65, h71, h72, c73, h74]
        · simp only [D, DT, reduceIte, reduceCtorEq, Nat.reduceEqDiff, Nat.reduceAdd, Nat.reduceLT, Nat.reduceLeDiff, Nat.reduceBEq, Int.reduceLE, Int.reduceLT, Int.reduceEq, Int.reduceNeg, g3_64, g4_64, g7_64, k3_64, k4_64, k7_64, c9_k0, h65, h71, h72, c73, h74]
          cases h76 : x75
          · simp only [D, DT, reduceIte, reduceCtorEq, Nat.reduceEqDiff, Nat.reduceAdd, Nat.reduceLT, Nat.reduceLeDiff, Nat.reduceBEq, Int.reduceLE, Int.reduceLT, Int.reduceEq, Int.reduceNeg, g3_64, g4_64, g7_64, k3_64, k4_64, k7_64, c9_k0, h65, h71, h72, c73, h74, h76]
            try rfl
          · simp only [D, DT, reduceIte, reduceCtorEq, Nat.reduceEqDiff, Nat.reduceAdd, Nat.reduceLT, Nat.reduceLeDiff, Nat.reduceBEq, Int.reduceLE, Int.reduceLT, Int.reduceEq, Int.reduceNeg, g3_64, g4_64, g7_64, k3_64, k4_64, k7_64, c9_k0, h65, h71, h72, c73, h74, h76]
            try rfl
noncomputable def mandolineref08_Check.f (a0 : api_Request) (a1 : api_Meta) (a2 : Bool) : Option Int :=
  bif a0.Cond_AnyMatch then
    bif a2 then
      bif a0.Cond_AnyNone then
        some 3
      else
        bif (decide ((0 : Int) < (a0.Cond_None.length : Int))) then
          (mandolineref08_one.f a0.Cond_None (api_Tag.mk a1.Tag_Text a1.Tag_Weak) false).bind fun x84 =>
          bif x84 then
            some 3
          else
            mandolineref08_Check.k2 a0 a1
        else
          bif (decide ((0 : Int) ≤ a0.Cond_Since)) then
            bif (decide (a1.Length = (-1))) then
              mandolineref08_Check.k2 a0 a1
            else
              bif (decide ((0 : Int) ≤ a1.Modified)) then
                bif (decide (a1.Modified ≤ a0.Cond_Since)) then
                  some 3
                else
                  mandolineref08_Check.k2 a0 a1
              else
                mandolineref08_Check.k2 a0 a1
          else
            mandolineref08_Check.k2 a0 a1
    else
      some 4
  else
    bif (decide ((0 : Int) < (a0.Cond_Match.length : Int))) then
      bif a2 then
        (mandolineref08_one.f a0.Cond_Match (api_Tag.mk a1.Tag_Text a1.Tag_Weak) true).bind fun x52 =>
        bif x52 then
          mandolineref08_Check.k0 a0 a1 true
        else
          some 4
      else
        some 4
    else
      bif a2 then
        bif (decide ((0 : Int) ≤ a0.Cond_Unless)) then
          bif (decide ((0 : Int) ≤ a1.Modified)) then
            bif (decide (a0.Cond_Unless < a1.Modified)) then
              some 4
            else
              mandolineref08_Check.k0 a0 a1 true
          else
            mandolineref08_Check.k0 a0 a1 true
        else
          mandolineref08_Check.k0 a0 a1 true
      else
        mandolineref08_Check.k0 a0 a1 false
set_option maxHeartbeats 4000000 in
theorem mandolineref08_Check.ok (a0 : api_Request) (a1 : api_Meta) (a2 : Bool) : ansL X 9 [(.agg [(.bool a0.Head), (.str a0.Object), (.sl (encL api_Spec.enc a0.Specs)), (.sl (encL api_Tag.enc a0.Cond_Match)), (.sl (encL api_Tag.enc a0.Cond_None)), (.bool a0.Cond_AnyMatch), (.bool a0.Cond_AnyNone), (.int .i64 a0.Cond_Since), (.int .i64 a0.Cond_Unless), (.str a0.Cond_Range_Text), (.bool a0.Cond_Range_Weak)]), (.agg [(.str a1.Tag_Text), (.bool a1.Tag_Weak), (.int .i64 a1.Modified), (.int .i64 a1.Length), (.int .i64 a1.Have), (.int .i64 a1.Fresh), (.int .i64 a1.While), (.int .i64 a1.Error), (.sl (encL AV.str a1.Keys)), (.str a1.Tenant), (.bool a1.Keep)]), (.bool a2)] = Option.map (AV.int .i64) (mandolineref08_Check.f a0 a1 a2) := by
  rw [ansL_run (fd := c9) rfl rfl]
  simp only [D, DT, reduceIte, reduceCtorEq, Nat.reduceEqDiff, Nat.reduceAdd, Nat.reduceLT, Nat.reduceLeDiff, Nat.reduceBEq, Int.reduceLE, Int.reduceLT, Int.reduceEq, Int.reduceNeg, c9, mandolineref08_Check.f]
  cases h1 : a0.Cond_AnyMatch
  · simp only [D, DT, reduceIte, reduceCtorEq, Nat.reduceEqDiff, Nat.reduceAdd, Nat.reduceLT, Nat.reduceLeDiff, Nat.reduceBEq, Int.reduceLE, Int.reduceLT, Int.reduceEq, Int.reduceNeg, h1]
    cases h44 : (decide ((0 : Int) < (a0.Cond_Match.length : Int)))
    · simp only [D, DT, reduceIte, reduceCtorEq, Nat.reduceEqDiff, Nat.reduceAdd, Nat.reduceLT, Nat.reduceLeDiff, Nat.reduceBEq, Int.reduceLE, Int.reduceLT, Int.reduceEq, Int.reduceNeg, h1, h44]
      cases h45 : a2
      · simp only [D, DT, reduceIte, reduceCtorEq, Nat.reduceEqDiff, Nat.reduceAdd, Nat.reduceLT, Nat.reduceLeDiff, Nat.reduceBEq, Int.reduceLE, Int.reduceLT, Int.reduceEq, Int.reduceNeg, h1, h44, h45]
        exact mandolineref08_Check.k0_ok a0 a1 false _ _ (by first | (simp only [D, DT, reduceIte, reduceCtorEq, Nat.reduceEqDiff, Nat.reduceAdd, Nat.reduceLT, Nat.reduceLeDiff, Nat.reduceBEq, Int.reduceLE, Int.reduceLT, Int.reduceEq, Int.reduceNeg, h1, h44, h45] <;> rfl) | rfl) (by first | (simp only [D, DT, reduceIte, reduceCtorEq, Nat.reduceEqDiff, Nat.reduceAdd, Nat.reduceLT, Nat.reduceLeDiff, Nat.reduceBEq, Int.reduceLE, Int.reduceLT, Int.reduceEq, Int.reduceNeg, h1, h44, h45] <;> rfl) | rfl) (by first | (simp only [D, DT, reduceIte, reduceCtorEq, Nat.reduceEqDiff, Nat.reduceAdd, Nat.reduceLT, Nat.reduceLeDiff, Nat.reduceBEq, Int.reduceLE, Int.reduceLT, Int.reduceEq, Int.reduceNeg, h1, h44, h45] <;> rfl) | rfl) (by first | (simp only [D, DT, reduceIte, reduceCtorEq, Nat.reduceEqDiff, Nat.reduceAdd, Nat.reduceLT, Nat.reduceLeDiff, Nat.reduceBEq, Int.reduceLE, Int.reduceLT, Int.reduceEq, Int.reduceNeg, h1, h44, h45] <;> rfl) | rfl) (by first | (simp only [D, DT, reduceIte, reduceCtorEq, Nat.reduceEqDiff, Nat.reduceAdd, Nat.reduceLT, Nat.reduceLeDiff, Nat.reduceBEq, Int.reduceLE, Int.reduceLT, Int.reduceEq, Int.reduceNeg, h1, h44, h45] <;> rfl) | rfl) (by first | (simp only [D, DT, reduceIte, reduceCtorEq, Nat.reduceEqDiff, Nat.reduceAdd, Nat.reduceLT, Nat.reduceLeDiff, Nat.reduceBEq, Int.reduceLE, Int.reduceLT, Int.reduceEq, Int.reduceNeg, h1, h44, h45] <;> rfl) | rfl) (by first | (simp only [D, DT, reduceIte, reduceCtorEq, Nat.reduceEqDiff, Nat.reduceAdd, Nat.reduceLT, Nat.reduceLeDiff, Nat.reduceBEq, Int.reduceLE, Int.reduceLT, Int.reduceEq, Int.reduceNeg, h1, h44, h45] <;> rfl) | rfl)
      · simp only [D, DT, reduceIte, reduceCtorEq, Nat.reduceEqDiff, Nat.reduceAdd, Nat.reduceLT, Nat.reduceLeDiff, Nat.reduceBEq, Int.reduceLE, Int.reduceLT, Int.reduceEq, Int.reduceNeg, h1, h44, h45]
        cases h46 : (decide ((0 : Int) ≤ a0.Cond_Unless))
        · simp only [D, DT, reduceIte, reduceCtorEq, Nat.reduceEqDiff, Nat.reduceAdd, Nat.reduceLT, Nat.reduceLeDiff, Nat.reduceBEq, Int.reduceLE, Int.reduceLT, Int.reduceEq, Int.reduceNeg, h1, h44, h45, h46]
          exact mandolineref08_Check.k0_ok a0 a1 true _ _ (by first | (simp only [D, DT, reduceIte, reduceCtorEq, Nat.reduceEqDiff, Nat.reduceAdd, Nat.reduceLT, Nat.reduceLeDiff, Nat.reduceBEq, Int.reduceLE, Int.reduceLT, Int.reduceEq, Int.reduceNeg, h1, h44, h45, h46] <;> rfl) | rfl) (by first | (simp only [D, DT, reduceIte, reduceCtorEq, Nat.reduceEqDiff, Nat.reduceAdd, Nat.reduceLT, Nat.reduceLeDiff, Nat.reduceBEq, Int.reduceLE, Int.reduceLT, Int.reduceEq, Int.reduceNeg, h1, h44, h45, h46] <;> rfl) | rfl) (by first | (simp only [D, DT, reduceIte, reduceCtorEq, Nat.reduceEqDiff, Nat.reduceAdd, Nat.reduceLT, Nat.reduceLeDiff, Nat.reduceBEq, Int.reduceLE, Int.reduceLT, Int.reduceEq, Int.reduceNeg, h1, h44, h45, h46] <;> rfl) | rfl) (by first | (simp only [D, DT, reduceIte, reduceCtorEq, Nat.reduceEqDiff, Nat.reduceAdd, Nat.reduceLT, Nat.reduceLeDiff, Nat.reduceBEq, Int.reduceLE, Int.reduceLT, Int.reduceEq, Int.reduceNeg, h1, h44, h45, h46] <;> rfl) | rfl) (by first | (simp only [D, DT, reduceIte, reduceCtorEq, Nat.reduceEqDiff, Nat.reduceAdd, Nat.reduceLT, Nat.reduceLeDiff, Nat.reduceBEq, Int.reduceLE, Int.reduceLT, Int.reduceEq, Int.reduceNeg, h1, h44, h45, h46] <;> rfl) | rfl) (by first | (simp only [D, DT, reduceIte, reduceCtorEq, Nat.reduceEqDiff, Nat.reduceAdd, Nat.reduceLT, Nat.reduceLeDiff, Nat.reduceBEq, Int.reduceLE, Int.reduceLT, Int.reduceEq, Int.reduceNeg, h1, h44, h45, h46] <;> rfl) | rfl) (by first | (simp only [D, DT, reduceIte, reduceCtorEq, Nat.reduceEqDiff, Nat.reduceAdd, Nat.reduceLT, Nat.reduceLeDiff, Nat.reduceBEq, Int.reduceLE, Int.reduceLT, Int.reduceEq, Int.reduceNeg, h1, h44, h45, h46] <;> rfl) | rfl)
        · simp only [D, DT, reduceIte, reduceCtorEq, Nat.reduceEqDiff, Nat.reduceAdd, Nat.reduceLT, Nat.reduceLeDiff, Nat.reduceBEq, Int.reduceLE, Int.reduceLT, Int.reduceEq, Int.reduceNeg, h1, h44, h45, h46]
          cases h47 : (decide ((0 : Int) ≤ a1.Modified))
          · simp only [D, DT, reduceIte, reduceCtorEq, Nat.reduceEqDiff, Nat.reduceAdd, Nat.reduceLT, Nat.reduceLeDiff, Nat.reduceBEq, Int.reduceLE, Int.reduceLT, Int.reduceEq, Int.reduceNeg, h1, h44, h45, h46, h47]
            exact mandolineref08_Check.k0_ok a0 a1 true _ _ (by first | (simp only [D, DT, reduceIte, reduceCtorEq, Nat.reduceEqDiff, Nat.reduceAdd, Nat.reduceLT, Nat.reduceLeDiff, Nat.reduceBEq, Int.reduceLE, Int.reduceLT, Int.reduceEq, Int.reduceNeg, h1, h44, h45, h46, h47] <;> rfl) | rfl) (by first | (simp only [D, DT, reduceIte, reduceCtorEq, Nat.reduceEqDiff, Nat.reduceAdd, Nat.reduceLT, Nat.reduceLeDiff, Nat.reduceBEq, Int.reduceLE, Int.reduceLT, Int.reduceEq, Int.reduceNeg, h1, h44, h45, h46, h47] <;> rfl) | rfl) (by first | (simp only [D, DT, reduceIte, reduceCtorEq, Nat.reduceEqDiff, Nat.reduceAdd, Nat.reduceLT, Nat.reduceLeDiff, Nat.reduceBEq, Int.reduceLE, Int.reduceLT, Int.reduceEq, Int.reduceNeg, h1, h44, h45, h46, h47] <;> rfl) | rfl) (by first | (simp only [D, DT, reduceIte, reduceCtorEq, Nat.reduceEqDiff, Nat.reduceAdd, Nat.reduceLT, Nat.reduceLeDiff, Nat.reduceBEq, Int.reduceLE, Int.reduceLT, Int.reduceEq, Int.reduceNeg, h1, h44, h45, h46, h47] <;> rfl) | rfl) (by first | (simp only [D, DT, reduceIte, reduceCtorEq, Nat.reduceEqDiff, Nat.reduceAdd, Nat.reduceLT, Nat.reduceLeDiff, Nat.reduceBEq, Int.reduceLE, Int.reduceLT, Int.reduceEq, Int.reduceNeg, h1, h44, h45, h46, h47] <;> rfl) | rfl) (by first | (simp only [D, DT, reduceIte, reduceCtorEq, Nat.reduceEqDiff, Nat.reduceAdd, Nat.reduceLT, Nat.reduceLeDiff, Nat.reduceBEq, Int.reduceLE, Int.reduceLT, Int.reduceEq, Int.reduceNeg, h1, h44, h45, h46, h47] <;> rfl) | rfl) (by first | (simp only [D, DT, reduceIte, reduceCtorEq, Nat.reduceEqDiff, Nat.reduceAdd, Nat.reduceLT, Nat.reduceLeDiff, Nat.reduceBEq, Int.reduceLE, Int.reduceLT, Int.reduceEq, Int.reduceNeg, h1, h44, h45, h46, h47] <;> rfl) | rfl)
          · simp only [D, DT, reduceIte, reduceCtorEq, Nat.reduceEqDiff, Nat.reduceAdd, Nat.reduceLT, Nat.reduceLeDiff, Nat.reduceBEq, Int.reduceLE, Int.reduceLT, Int.reduceEq, Int.reduceNeg, h1, h44, h45, h46, h47]
            cases h48 : (decide (a0.Cond_Unless < a1.Modified))
            · simp only [D, DT, reduceIte, reduceCtorEq, Nat.reduceEqDiff, Nat.reduceAdd, Nat.reduceLT, Nat.reduceLeDiff, Nat.reduceBEq, Int.reduceLE, Int.reduceLT, Int.reduceEq, Int.reduceNeg, h1, h44, h45, h46, h47, h48]
              exact mandolineref08_Check.k0_ok a0 a1 true _ _ (by first | (simp only [D, DT, reduceIte, reduceCtorEq, Nat.reduceEqDiff, Nat.reduceAdd, Nat.reduceLT, Nat.reduceLeDiff, Nat.reduceBEq, Int.reduceLE, Int.reduceLT, Int.reduceEq, Int.reduceNeg, h1, h44, h45, h46, h47, h48] <;> rfl) | rfl) (by first | (simp only [D, DT, reduceIte, reduceCtorEq, Nat.reduceEqDiff, Nat.reduceAdd, Nat.reduceLT, Nat.reduceLeDiff, Nat.reduceBEq, Int.reduceLE, Int.reduceLT, Int.reduceEq, Int.reduceNeg, h1, h44, h45, h46, h47, h48] <;> rfl) | rfl) (by first | (simp only [D, DT, reduceIte, reduceCtorEq, Nat.reduceEqDiff, Nat.reduceAdd, Nat.reduceLT, Nat.reduceLeDiff, Nat.reduceBEq, Int.reduceLE, Int.reduceLT, Int.reduceEq, Int.reduceNeg, h1, h44, h45, h46, h47, h48] <;> rfl) | rfl) (by first | (simp only [D, DT, reduceIte, reduceCtorEq, Nat.reduceEqDiff, Nat.reduceAdd, Nat.reduceLT, Nat.reduceLeDiff, Nat.reduceBEq, Int.reduceLE, Int.reduceLT, Int.reduceEq, Int.reduceNeg, h1, h44, h45, h46, h47, h48] <;> rfl) | rfl) (by first | (simp only [D, DT, reduceIte, reduceCtorEq, Nat.reduceEqDiff, Nat.reduceAdd, Nat.reduceLT, Nat.reduceLeDiff, Nat.reduceBEq, Int.reduceLE, Int.reduceLT, Int.reduceEq, Int.reduceNeg, h1, h44, h45, h46, h47, h48] <;> rfl) | rfl) (by first | (simp only [D, DT, reduceIte, reduceCtorEq, Nat.reduceEqDiff, Nat.reduceAdd, Nat.reduceLT, Nat.reduceLeDiff, Nat.reduceBEq, Int.reduceLE, Int.reduceLT, Int.reduceEq, Int.reduceNeg, h1, h44, h45, h46, h47, h48] <;> rfl) | rfl) (by first | (simp only [D, DT, reduceIte, reduceCtorEq, Nat.reduceEqDiff, Nat.reduceAdd, Nat.reduceLT, Nat.reduceLeDiff, Nat.reduceBEq, Int.reduceLE, Int.reduceLT, Int.reduceEq, Int.reduceNeg, h1, h44, h45, h46, h47, h48] <;> rfl) | rfl)
            · simp only [D, DT, reduceIte, reduceCtorEq, Nat.reduceEqDiff, Nat.reduceAdd, Nat.reduceLT, Nat.reduceLeDiff, Nat.reduceBEq, Int.reduceLE, Int.reduceLT, Int.reduceEq, Int.reduceNeg, h1, h44, h45, h46, h47, h48]
              try rfl
    · simp only [D, DT, reduceIte, reduceCtorEq, Nat.reduceEqDiff, Nat.reduceAdd, Nat.reduceLT, Nat.reduceLeDiff, Nat.reduceBEq, Int.reduceLE, Int.reduceLT, Int.reduceEq, Int.reduceNeg, h1, h44]
      cases h49 : a2
      · simp only [D, DT, reduceIte, reduceCtorEq, Nat.reduceEqDiff, Nat.reduceAdd, Nat.reduceLT, Nat.reduceLeDiff, Nat.reduceBEq, Int.reduceLE, Int.reduceLT, Int.reduceEq, Int.reduceNeg, h1, h44, h49]
        try rfl
      · simp only [D, DT, reduceIte, reduceCtorEq, Nat.reduceEqDiff, Nat.reduceAdd, Nat.reduceLT, Nat.reduceLeDiff, Nat.reduceBEq, Int.reduceLE, Int.reduceLT, Int.reduceEq, Int.reduceNeg, h1, h44, h49]
        have c50 : ansL X 15 [(.sl (encL api_Tag.enc a0.Cond_Match)), (.agg [(.str a1.Tag_Text), (.bool a1.Tag_Weak)]), (.bool true)] = Option.map AV.bool (mandolineref08_one.f a0.Cond_Match (api_Tag.mk a1.Tag_Text a1.Tag_Weak) true) := mandolineref08_one.ok a0.Cond_Match (api_Tag.mk a1.Tag_Text a1.Tag_Weak) true
        rcases h51 : mandolineref08_one.f a0.Cond_Match (api_Tag.mk a1.Tag_Text a1.Tag_Weak) true with _ | x52
        · simp only [D, DT, reduceIte, reduceCtorEq, Nat.reduceEqDiff, Nat.reduceAdd, Nat.reduceLT, Nat.reduceLeDiff, Nat.reduceBEq, Int.reduceLE, Int.reduceLT, Int.reduceEq, Int.reduceNeg, h1, h44, h49, c50, h51]
        · simp only [D, DT, reduceIte, reduceCtorEq, Nat.reduceEqDiff, Nat.reduceAdd, Nat.reduceLT, Nat.reduceLeDiff, Nat.reduceBEq, Int.reduceLE, Int.reduceLT, Int.reduceEq, Int.reduceNeg, h1, h44, h49, c50, h51]
          cases h53 : x52
          · simp only [D, DT, reduceIte, reduceCtorEq, Nat.reduceEqDiff, Nat.reduceAdd, Nat.reduceLT, Nat.reduceLeDiff, Nat.reduceBEq, Int.reduceLE, Int.reduceLT, Int.reduceEq, Int.reduceNeg, h1, h44, h49, c50, h51, h53]
            try rfl
          · simp only [D, DT, reduceIte, reduceCtorEq, Nat.reduceEqDiff, Nat.reduceAdd, Nat.reduceLT, Nat.reduceLeDiff, Nat.reduceBEq, Int.reduceLE, Int.reduceLT, Int.reduceEq, Int.reduceNeg, h1, h44, h49, c50, h51, h53]
            exact mandolineref08_Check.k0_ok a0 a1 true _ _ (by first | (simp only [D, DT, reduceIte, reduceCtorEq, Nat.reduceEqDiff, Nat.reduceAdd, Nat.reduceLT, Nat.reduceLeDiff, Nat.reduceBEq, Int.reduceLE, Int.reduceLT, Int.reduceEq, Int.reduceNeg, h1, h44, h49, c50, h51, h53] <;> rfl) | rfl) (by first | (simp only [D, DT, reduceIte, reduceCtorEq, Nat.reduceEqDiff, Nat.reduceAdd, Nat.reduceLT, Nat.reduceLeDiff, Nat.reduceBEq, Int.reduceLE, Int.reduceLT, Int.reduceEq, Int.reduceNeg, h1, h44, h49, c50, h51, h53] <;> rfl) | rfl) (by first | (simp only [D, DT, reduceIte, reduceCtorEq, Nat.reduceEqDiff, Nat.reduceAdd, Nat.reduceLT, Nat.reduceLeDiff, Nat.reduceBEq, Int.reduceLE, Int.reduceLT, Int.reduceEq, Int.reduceNeg, h1, h44, h49, c50, h51, h53] <;> rfl) | rfl) (by first | (simp only [D, DT, reduceIte, reduceCtorEq, Nat.reduceEqDiff, Nat.reduceAdd, Nat.reduceLT, Nat.reduceLeDiff, Nat.reduceBEq, Int.reduceLE, Int.reduceLT, Int.reduceEq, Int.reduceNeg, h1, h44, h49, c50, h51, h53] <;> rfl) | rfl) (by first | (simp only [D, DT, reduceIte, reduceCtorEq, Nat.reduceEqDiff, Nat.reduceAdd, Nat.reduceLT, Nat.reduceLeDiff, Nat.reduceBEq, Int.reduceLE, Int.reduceLT, Int.reduceEq, Int.reduceNeg, h1, h44, h49, c50, h51, h53] <;> rfl) | rfl) (by first | (simp only [D, DT, reduceIte, reduceCtorEq, Nat.reduceEqDiff, Nat.reduceAdd, Nat.reduceLT, Nat.reduceLeDiff, Nat.reduceBEq, Int.reduceLE, Int.reduceLT, Int.reduceEq, Int.reduceNeg, h1, h44, h49, c50, h51, h53] <;> rfl) | rfl) (by first | (simp only [D, DT, reduceIte, reduceCtorEq, Nat.reduceEqDiff, Nat.reduceAdd, Nat.reduceLT, Nat.reduceLeDiff, Nat.reduceBEq, Int.reduceLE, Int.reduceLT, Int.reduceEq, Int.reduceNeg, h1, h44, h49, c50, h51, h53] <;> rfl) | rfl)
  · simp only [D, DT, reduceIte, reduceCtorEq, Nat.reduceEqDiff, Nat.reduceAdd, Nat.reduceLT, Nat.reduceLeDiff, Nat.reduceBEq, Int.reduceLE, Int.reduceLT, Int.reduceEq, Int.reduceNeg, h1]
    cases h54 : a2
    · simp only [D, DT, reduceIte, reduceCtorEq, Nat.reduceEqDiff, Nat.reduceAdd, Nat.reduceLT, Nat.reduceLeDiff, Nat.reduceBEq, Int.reduceLE, Int.reduceLT, Int.reduceEq, Int.reduceNeg, h1, h54]
      try rfl
    · simp only [D, DT, reduceIte, reduceCtorEq, Nat.reduceEqDiff, Nat.reduceAdd, Nat.reduceLT, Nat.reduceLeDiff, Nat.reduceBEq, Int.reduceLE, Int.reduceLT, Int.reduceEq, Int.reduceNeg, h1, h54]
      simp only [D, DT, reduceIte, reduceCtorEq, Nat.reduceEqDiff, Nat.reduceAdd, Nat.reduceLT, Nat.reduceLeDiff, Nat.reduceBEq, Int.reduceLE, Int.reduceLT, Int.reduceEq, Int.reduceNeg, h1, h54, c9_k1]
      cases h55 : a0.Cond_AnyNone
      · simp only [D, DT, reduceIte, reduceCtorEq, Nat.reduceEqDiff, Nat.reduceAdd, Nat.reduceLT, Nat.reduceLeDiff, Nat.reduceBEq, Int.reduceLE, Int.reduceLT, Int.reduceEq, Int.reduceNeg, h1, h54, c9_k1, h55]
        cases h77 : (decide ((0 : Int) < (a0.Cond_None.length : Int)))
        · simp only [D, DT, reduceIte, reduceCtorEq, Nat.reduceEqDiff, Nat.reduceAdd, Nat.reduceLT, Nat.reduceLeDiff, Nat.reduceBEq, Int.reduceLE, Int.reduceLT, Int.reduceEq, Int.reduceNeg, h1, h54, c9_k1, h55, h77]
          cases h78 : (decide ((0 : Int) ≤ a0.Cond_Since))
          · simp only [D, DT, reduceIte, reduceCtorEq, Nat.reduceEqDiff, Nat.reduceAdd, Nat.reduceLT, Nat.reduceLeDiff, Nat.reduceBEq, Int.reduceLE, Int.reduceLT, Int.reduceEq, Int.reduceNeg, h1, h54, c9_k1, h55, h77, h78]
            exact mandolineref08_Check.k2_ok a0 a1 _ _ (by first | (simp only [D, DT, reduceIte, reduceCtorEq, Nat.reduceEqDiff, Nat.reduceAdd, Nat.reduceLT, Nat.reduceLeDiff, Nat.reduceBEq, Int.reduceLE, Int.reduceLT, Int.reduceEq, Int.reduceNeg, h1, h54, c9_k1, h55, h77, h78] <;> rfl) | rfl) (by first | (simp only [D, DT, reduceIte, reduceCtorEq, Nat.reduceEqDiff, Nat.reduceAdd, Nat.reduceLT, Nat.reduceLeDiff, Nat.reduceBEq, Int.reduceLE, Int.reduceLT, Int.reduceEq, Int.reduceNeg, h1, h54, c9_k1, h55, h77, h78] <;> rfl) | rfl) (by first | (simp only [D, DT, reduceIte, reduceCtorEq, Nat.reduceEqDiff, Nat.reduceAdd, Nat.reduceLT, Nat.reduceLeDiff, Nat.reduceBEq, Int.reduceLE, Int.reduceLT, Int.reduceEq, Int.reduceNeg, h1, h54, c9_k1, h55, h77, h78] <;> rfl) | rfl) (by first | (simp only [D, DT, reduceIte, reduceCtorEq, Nat.reduceEqDiff, Nat.reduceAdd, Nat.reduceLT, Nat.reduceLeDiff, Nat.reduceBEq, Int.reduceLE, Int.reduceLT, Int.reduceEq, Int.reduceNeg, h1, h54, c9_k1, h55, h77, h78] <;> rfl) | rfl) (by first | (simp only [D, DT, reduceIte, reduceCtorEq, Nat.reduceEqDiff, Nat.reduceAdd, Nat.reduceLT, Nat.reduceLeDiff, Nat.reduceBEq, Int.reduceLE, Int.reduceLT, Int.reduceEq, Int.reduceNeg, h1, h54, c9_k1, h55, h77, h78] <;> rfl) | rfl) (by first | (simp only [D, DT, reduceIte, reduceCtorEq, Nat.reduceEqDiff, Nat.reduceAdd, Nat.reduceLT, Nat.reduceLeDiff, Nat.reduceBEq, Int.reduceLE, Int.reduceLT, Int.reduceEq, Int.reduceNeg, h1, h54, c9_k1, h55, h77, h78] <;> rfl) | rfl)
          · simp only [D, DT, reduceIte, reduceCtorEq, Nat.reduceEqDiff, Nat.reduceAdd, Nat.reduceLT, Nat.reduceLeDiff, Nat.reduceBEq, Int.reduceLE, Int.reduceLT, Int.reduceEq, Int.reduceNeg, h1, h54, c9_k1, h55, h77, h78]
            cases h79 : (decide (a1.Length = (-1)))
            · simp only [D, DT, reduceIte, reduceCtorEq, Nat.reduceEqDiff, Nat.reduceAdd, Nat.reduceLT, Nat.reduceLeDiff, Nat.reduceBEq, Int.reduceLE, Int.reduceLT, Int.reduceEq, Int.reduceNeg, h1, h54, c9_k1, h55, h77, h78, h79]
              cases h80 : (decide ((0 : Int) ≤ a1.Modified))
              · simp only [D, DT, reduceIte, reduceCtorEq, Nat.reduceEqDiff, Nat.reduceAdd, Nat.reduceLT, Nat.reduceLeDiff, Nat.reduceBEq, Int.reduceLE, Int.reduceLT, Int.reduceEq, Int.reduceNeg, h1, h54, c9_k1, h55, h77, h78, h79, h80]
                exact mandolineref08_Check.k2_ok a0 a1 _ _ (by first | (simp only [D, DT, reduceIte, reduceCtorEq, Nat.reduceEqDiff, Nat.reduceAdd, Nat.reduceLT, Nat.reduceLeDiff, Nat.reduceBEq, Int.reduceLE, Int.reduceLT, Int.reduceEq, Int.reduceNeg, h1, h54, c9_k1, h55, h77, h78, h79, h80] <;> rfl) | rfl) (by first | (simp only [D, DT, reduceIte, reduceCtorEq, Nat.reduceEqDiff, Nat.reduceAdd, Nat.reduceLT, Nat.reduceLeDiff, Nat.reduceBEq, Int.reduceLE, Int.reduceLT, Int.reduceEq, Int.reduceNeg, h1, h54, c9_k1, h55, h77, h78, h79, h80] <;> rfl) | rfl) (by first | (simp only [D, DT, reduceIte, reduceCtorEq, Nat.reduceEqDiff, Nat.reduceAdd, Nat.reduceLT, Nat.reduceLeDiff, Nat.reduceBEq, Int.reduceLE, Int.reduceLT, Int.reduceEq, Int.reduceNeg, h1, h54, c9_k1, h55, h77, h78, h79, h80] <;> rfl) | rfl) (by first | (simp only [D, DT, reduceIte, reduceCtorEq, Nat.reduceEqDiff, Nat.reduceAdd, Nat.reduceLT, Nat.reduceLeDiff, Nat.reduceBEq, Int.reduceLE, Int.reduceLT, Int.reduceEq, Int.reduceNeg, h1, h54, c9_k1, h55, h77, h78, h79, h80] <;> rfl) | rfl) (by first | (simp only [D, DT, reduceIte, reduceCtorEq, Nat.reduceEqDiff, Nat.reduceAdd, Nat.reduceLT, Nat.reduceLeDiff, Nat.reduceBEq, Int.reduceLE, Int.reduceLT, Int.reduceEq, Int.reduceNeg, h1, h54, c9_k1, h55, h77, h78, h79, h80] <;> rfl) | rfl) (by first | (simp only [D, DT, reduceIte, reduceCtorEq, Nat.reduceEqDiff, Nat.reduceAdd, Nat.reduceLT, Nat.reduceLeDiff, Nat.reduceBEq, Int.reduceLE, Int.reduceLT, Int.reduceEq, Int.reduceNeg, h1, h54, c9_k1, h55, h77, h78, h79, h80] <;> rfl) | rfl)
              · simp only [D, DT, reduceIte, reduceCtorEq, Nat.reduceEqDiff, Nat.reduceAdd, Nat.reduceLT, Nat.reduceLeDiff, Nat.reduceBEq, Int.reduceLE, Int.reduceLT, Int.reduceEq, Int.reduceNeg, h1, h54, c9_k1, h55, h77, h78, h79, h80]
                cases h81 : (decide (a1.Modified ≤ a0.Cond_Since))
                · simp only [D, DT, reduceIte, reduceCtorEq, Nat.reduceEqDiff, Nat.reduceAdd, Nat.reduceLT, Nat.reduceLeDiff, Nat.reduceBEq, Int.reduceLE, Int.reduceLT, Int.reduceEq, Int.reduceNeg, h1, h54, c9_k1, h55, h77, h78, h79, h80, h81]
                  exact mandolineref08_Check.k2_ok a0 a1 _ _ (by first | (simp only [D, DT, reduceIte, reduceCtorEq, Nat.reduceEqDiff, Nat.reduceAdd, Nat.reduceLT, Nat.reduceLeDiff, Nat.reduceBEq, Int.reduceLE, Int.reduceLT, Int.reduceEq, Int.reduceNeg, h1, h54, c9_k1, h55, h77, h78, h79, h80, h81] <;> rfl) | rfl) (by first | (simp only [D, DT, reduceIte, reduceCtorEq, Nat.reduceEqDiff, Nat.reduceAdd, Nat.reduceLT, Nat.reduceLeDiff, Nat.reduceBEq, Int.reduceLE, Int.reduceLT, Int.reduceEq, Int.reduceNeg, h1, h54, c9_k1, h55, h77, h78, h79, h80, h81] <;> rfl) | rfl) (by first | (simp only [D, DT, reduceIte, reduceCtorEq, Nat.reduceEqDiff, Nat.reduceAdd, Nat.reduceLT, Nat.reduceLeDiff, Nat.reduceBEq, Int.reduceLE, Int.reduceLT, Int.reduceEq, Int.reduceNeg, h1, h54, c9_k1, h55, h77, h78, h79, h80, h81] <;> rfl) | rfl) (by first | (simp only [D, DT, reduceIte, reduceCtorEq, Nat.reduceEqDiff, Nat.reduceAdd, Nat.reduceLT, Nat.reduceLeDiff, Nat.reduceBEq, Int.reduceLE, Int.reduceLT, Int.reduceEq, Int.reduceNeg, h1, h54, c9_k1, h55, h77, h78, h79, h80, h81] <;> rfl) | rfl) (by first | (simp only [D, DT, reduceIte, reduceCtorEq, Nat.reduceEqDiff, Nat.reduceAdd, Nat.reduceLT, Nat.reduceLeDiff, Nat.reduceBEq, Int.reduceLE, Int.reduceLT, Int.reduceEq, Int.reduceNeg, h1, h54, c9_k1, h55, h77, h78, h79, h80, h81] <;> rfl) | rfl) (by first | (simp only [D, DT, reduceIte, reduceCtorEq, Nat.reduceEqDiff, Nat.reduceAdd, Nat.reduceLT, Nat.reduceLeDiff, Nat.reduceBEq, Int.reduceLE, Int.reduceLT, Int.reduceEq, Int.reduceNeg, h1, h54, c9_k1, h55, h77, h78, h79, h80, h81] <;> rfl) | rfl)
                · simp only [D, DT, reduceIte, reduceCtorEq, Nat.reduceEqDiff, Nat.reduceAdd, Nat.reduceLT, Nat.reduceLeDiff, Nat.reduceBEq, Int.reduceLE, Int.reduceLT, Int.reduceEq, Int.reduceNeg, h1, h54, c9_k1, h55, h77, h78, h79, h80, h81]
                  try rfl
            · simp only [D, DT, reduceIte, reduceCtorEq, Nat.reduceEqDiff, Nat.reduceAdd, Nat.reduceLT, Nat.reduceLeDiff, Nat.reduceBEq, Int.reduceLE, Int.reduceLT, Int.reduceEq, Int.reduceNeg, h1, h54, c9_k1, h55, h77, h78, h79]
              exact mandolineref08_Check.k2_ok a0 a1 _ _ (by first | (simp only [D, DT, reduceIte, reduceCtorEq, Nat.reduceEqDiff, Nat.reduceAdd, Nat.reduceLT, Nat.reduceLeDiff, Nat.reduceBEq, Int.reduceLE, Int.reduceLT, Int.reduceEq, Int.reduceNeg, h1, h54, c9_k1, h55, h77, h78, h79] <;> rfl) | rfl) (by first | (simp only [D, DT, reduceIte, reduceCtorEq, Nat.reduceEqDiff, Nat.reduceAdd, Nat.reduceLT, Nat.reduceLeDiff, Nat.reduceBEq, Int.reduceLE, Int.reduceLT, Int.reduceEq, Int.reduceNeg, h1, h54, c9_k1, h55, h77, h78, h79] <;> rfl) | rfl) (by first | (simp only [D, DT, reduceIte, reduceCtorEq, Nat.reduceEqDiff, Nat.reduceAdd, Nat.reduceLT, Nat.reduceLeDiff, Nat.reduceBEq, Int.reduceLE, Int.reduceLT, Int.reduceEq, Int.reduceNeg, h1, h54, c9_k1, h55, h77, h78, h79] <;> rfl) | rfl) (by first | (simp only [D, DT, reduceIte, reduceCtorEq, Nat.reduceEqDiff, Nat.reduceAdd, Nat.reduceLT, Nat.reduceLeDiff, Nat.reduceBEq, Int.reduceLE, Int.reduceLT, Int.reduceEq, Int.reduceNeg, h1, h54, c9_k1, h55, h77, h78, h79] <;> rfl) | rfl) (by first | (simp only [D, DT, reduceIte, reduceCtorEq, Nat.reduceEqDiff, Nat.reduceAdd, Nat.reduceLT, Nat.reduceLeDiff, Nat.reduceBEq, Int.reduceLE, Int.reduceLT, Int.reduceEq, Int.reduceNeg, h1, h54, c9_k1, h55, h77, h78, h79] <;> rfl) | rfl) (by first | (simp only [D, DT, reduceIte, reduceCtorEq, Nat.reduceEqDiff, Nat.reduceAdd, Nat.reduceLT, Nat.reduceLeDiff, Nat.reduceBEq, Int.reduceLE, Int.reduceLT, Int.reduceEq, Int.reduceNeg, h1, h54, c9_k1, h55, h77, h78, h79] <;> rfl) | rfl)
        · simp only [D, DT, reduceIte, reduceCtorEq, Nat.reduceEqDiff, Nat.reduceAdd, Nat.reduceLT, Nat.reduceLeDiff, Nat.reduceBEq, Int.reduceLE, Int.reduceLT, Int.reduceEq, Int.reduceNeg, h1, h54, c9_k1, h55, h77]
          have c82 : ansL X 15 [(.sl (encL api_Tag.enc a0.Cond_None)), (.agg [(.str a1.Tag_Text), (.bool a1.Tag_Weak)]), (.bool false)] = Option.map AV.bool (mandolineref08_one.f a0.Cond_None (api_Tag.mk a1.Tag_Text a1.Tag_Weak) false) := mandolineref08_one.ok a0.Cond_None (api_Tag.mk a1.Tag_Text a1.Tag_Weak) false
          rcases h83 : mandolineref08_one.f a0.Cond_None (api_Tag.mk a1.Tag_Text a1.Tag_Weak) false with _ | x84
          · simp only [D, DT, reduceIte, reduceCtorEq, Nat.reduceEqDiff, Nat.reduceAdd, Nat.reduceLT, Nat.reduceLeDiff, Nat.reduceBEq, Int.reduceLE, Int.reduceLT, Int.reduceEq, Int.reduceNeg, h1, h54, c9_k1, h55, h77, c82, h83]
          · simp only [D, DT, reduceIte, reduceCtorEq, Nat.reduceEqDiff, Nat.reduceAdd, Nat.reduceLT, Nat.reduceLeDiff, Nat.reduceBEq, Int.reduceLE, Int.reduceLT, Int.reduceEq, Int.reduceNeg, h1, h54, c9_k1, h55, h77, c82, h83]
            cases h85 : x84
            · simp only [D, DT, reduceIte, reduceCtorEq, Nat.reduceEqDiff, Nat.reduceAdd, Nat.reduceLT, Nat.reduceLeDiff, Nat.reduceBEq, Int.reduceLE, Int.reduceLT, Int.reduceEq, Int.reduceNeg, h1, h54, c9_k1, h55, h77, c82, h83, h85]
              exact mandolineref08_Check.k2_ok a0 a1 _ _ (by first | (simp only [D, DT, reduceIte, reduceCtorEq, Nat.reduceEqDiff, Nat.reduceAdd, Nat.reduceLT, Nat.reduceLeDiff, Nat.reduceBEq, Int.reduceLE, Int.reduceLT, Int.reduceEq, Int.reduceNeg, h1, h54, c9_k1, h55, h77, c82, h83, h85] <;> rfl) | rfl) (by first | (simp only [D, DT, reduceIte, reduceCtorEq, Nat.reduceEqDiff, Nat.reduceAdd, Nat.reduceLT, Nat.reduceLeDiff, Nat.reduceBEq, Int.reduceLE, Int.reduceLT, Int.reduceEq, Int.reduceNeg, h1, h54, c9_k1, h55, h77, c82, h83, h85] <;> rfl) | rfl) (by first | (simp only [D, DT, reduceIte, reduceCtorEq, Nat.reduceEqDiff, Nat.reduceAdd, Nat.reduceLT, Nat.reduceLeDiff, Nat.reduceBEq, Int.reduceLE, Int.reduceLT, Int.reduceEq, Int.reduceNeg, h1, h54, c9_k1, h55, h77, c82, h83, h85] <;> rfl) | rfl) (by first | (simp only [D, DT, reduceIte, reduceCtorEq, Nat.reduceEqDiff, Nat.reduceAdd, Nat.reduceLT, Nat.reduceLeDiff, Nat.reduceBEq, Int.reduceLE, Int.reduceLT, Int.reduceEq, Int.reduceNeg, h1, h54, c9_k1, h55, h77, c82, h83, h85] <;> rfl) | rfl) (by first | (simp only [D, DT, reduceIte, reduceCtorEq, Nat.reduceEqDiff, Nat.reduceAdd, Nat.reduceLT, Nat.reduceLeDiff, Nat.reduceBEq, Int.reduceLE, Int.reduceLT, Int.reduceEq, Int.reduceNeg, h1, h54, c9_k1, h55, h77, c82, h83, h85] <;> rfl) | rfl) (by first | (simp only [D, DT, reduceIte, reduceCtorEq, Nat.reduceEqDiff, Nat.reduceAdd, Nat.reduceLT, Nat.reduceLeDiff, Nat.reduceBEq, Int.reduceLE, Int.reduceLT, Int.reduceEq, Int.reduceNeg, h1, h54, c9_k1, h55, h77, c82, h83, h85] <;> rfl) | rfl)
            · simp only [D, DT, reduceIte, reduceCtorEq, Nat.reduceEqDiff, Nat.reduceAdd, Nat.reduceLT, Nat.reduceLeDiff, Nat.reduceBEq, Int.reduceLE, Int.reduceLT, Int.reduceEq, Int.reduceNeg, h1, h54, c9_k1, h55, h77, c82, h83, h85]
              try rfl
      · simp only [D, DT, reduceIte, reduceCtorEq, Nat.reduceEqDiff, Nat.reduceAdd, Nat.reduceLT, Nat.reduceLeDiff, Nat.reduceBEq, Int.reduceLE, Int.reduceLT, Int.reduceEq, Int.reduceNeg, h1, h54, c9_k1, h55]
        try rfl
end Go.Proofs.Ytchlkbnjamgihaa
