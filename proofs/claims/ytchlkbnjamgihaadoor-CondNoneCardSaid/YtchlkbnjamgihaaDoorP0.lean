/-
  Plain functions: tag_Right, tag_Weak, tag_Strong, tag_In, date_right, cond_failed, cond_same, cond_Check, mandolineref08_Few, mandolinelaw08_awake, mandolinelaw08_CondNone. Its conditions: none.
-/
import Derived.Test.YtchlkbnjamgihaaDoorNat
namespace Go.Proofs.YtchlkbnjamgihaaDoor
open Go Go.Den
set_option maxRecDepth 100000
set_option linter.unusedSimpArgs false
set_option linter.unusedVariables false
inductive tag_Right.l0X where
  | x0
  | ret
noncomputable def tag_Right.l0B (a0 : api_Tag) (v8_8 : Int) : Option (Step (Int) tag_Right.l0X) :=
  bif (decide (v8_8 < (a0.Text.length : Int))) then
    (idx a0.Text v8_8).bind fun x19 =>
    bif (decide ((x19.toNat : Int) = 33)) then
      some (.next (IntKind.i64.wrap (v8_8 + 1)))
    else
      bif (decide ((x19.toNat : Int) < 35)) then
        some (.done (.ret))
      else
        bif (decide ((126 : Int) < (x19.toNat : Int))) then
          some (.done (.ret))
        else
          some (.next (IntKind.i64.wrap (v8_8 + 1)))
  else
    some (.done (.x0))
set_option maxHeartbeats 4000000 in
theorem tag_Right.l0_ok {α : Type} {F : Env → Heap → Option α} {K : List Fr} (fin : tag_Right.l0X → Option α) (a0 : api_Tag)
    (hx0 : ∀ (e : Env) (H : Heap), e 1 = (.ptr [1] 1 0 0) → H [1] = (1, some ⟨false, false, 2, [(.agg [(.str a0.Text), (.bool a0.Weak)])]⟩) → outL X [] F K e H 0 = fin (.x0))
    (hret : ∀ (e : Env) (H : Heap), e 2 = (.bool false) → F e H = fin (.ret)) (v8_8 : Int) (e : Env) (H : Heap) (g1_8 : e 1 = (.ptr [1] 1 0 0)) (g7_8 : e 7 = (.int .i64 (a0.Text.length : Int))) (g8_8 : e 8 = (.int .i64 v8_8)) (k1_8 : H [1] = (1, some ⟨false, false, 2, [(.agg [(.str a0.Text), (.bool a0.Weak)])]⟩)) :
    runL X [] F (.c (.loop c14_l0) :: K) e H = (loopL (tag_Right.l0B a0) v8_8).bind fin := by
  refine loop_of (R := fun (v8_8 : Int) (e : Env) (H : Heap) => e 1 = (.ptr [1] 1 0 0) ∧ e 7 = (.int .i64 (a0.Text.length : Int)) ∧ e 8 = (.int .i64 v8_8) ∧ H [1] = (1, some ⟨false, false, 2, [(.agg [(.str a0.Text), (.bool a0.Weak)])]⟩)) fin ?_ ⟨g1_8, g7_8, g8_8, k1_8⟩
  clear k1_8 g8_8 g7_8 g1_8 e H v8_8
  intro n G hn hd s e H hR
  revert hR; revert s; intro v8_8 hR
  obtain ⟨g1_8, g7_8, g8_8, k1_8⟩ := hR
  simp only [D, DT, reduceIte, reduceCtorEq, Nat.reduceEqDiff, Nat.reduceAdd, Nat.reduceLT, Nat.reduceLeDiff, Nat.reduceBEq, Int.reduceLE, Int.reduceLT, Int.reduceEq, Int.reduceNeg, tag_Right.l0B, g1_8, g7_8, g8_8, k1_8, c14_l0]
  cases h17 : (decide (v8_8 < (a0.Text.length : Int)))
  · simp only [D, DT, reduceIte, reduceCtorEq, Nat.reduceEqDiff, Nat.reduceAdd, Nat.reduceLT, Nat.reduceLeDiff, Nat.reduceBEq, Int.reduceLE, Int.reduceLT, Int.reduceEq, Int.reduceNeg, g1_8, g7_8, g8_8, k1_8, c14_l0, h17]
    exact (hx0 _ _ (by first | (simp only [D, DT, reduceIte, reduceCtorEq, Nat.reduceEqDiff, Nat.reduceAdd, Nat.reduceLT, Nat.reduceLeDiff, Nat.reduceBEq, Int.reduceLE, Int.reduceLT, Int.reduceEq, Int.reduceNeg, g1_8, g7_8, g8_8, k1_8, c14_l0, h17] <;> rfl) | rfl) (by first | (simp only [D, DT, reduceIte, reduceCtorEq, Nat.reduceEqDiff, Nat.reduceAdd, Nat.reduceLT, Nat.reduceLeDiff, Nat.reduceBEq, Int.reduceLE, Int.reduceLT, Int.reduceEq, Int.reduceNeg, g1_8, g7_8, g8_8, k1_8, c14_l0, h17] <;> rfl) | rfl)).trans (hd _).symm
  · simp only [D, DT, reduceIte, reduceCtorEq, Nat.reduceEqDiff, Nat.reduceAdd, Nat.reduceLT, Nat.reduceLeDiff, Nat.reduceBEq, Int.reduceLE, Int.reduceLT, Int.reduceEq, Int.reduceNeg, g1_8, g7_8, g8_8, k1_8, c14_l0, h17]
    rcases h18 : idx a0.Text v8_8 with _ | x19
    · simp only [D, DT, reduceIte, reduceCtorEq, Nat.reduceEqDiff, Nat.reduceAdd, Nat.reduceLT, Nat.reduceLeDiff, Nat.reduceBEq, Int.reduceLE, Int.reduceLT, Int.reduceEq, Int.reduceNeg, g1_8, g7_8, g8_8, k1_8, c14_l0, h17, h18]
    · simp only [D, DT, reduceIte, reduceCtorEq, Nat.reduceEqDiff, Nat.reduceAdd, Nat.reduceLT, Nat.reduceLeDiff, Nat.reduceBEq, Int.reduceLE, Int.reduceLT, Int.reduceEq, Int.reduceNeg, g1_8, g7_8, g8_8, k1_8, c14_l0, h17, h18]
      cases h20 : (decide ((x19.toNat : Int) = 33))
      · simp only [D, DT, reduceIte, reduceCtorEq, Nat.reduceEqDiff, Nat.reduceAdd, Nat.reduceLT, Nat.reduceLeDiff, Nat.reduceBEq, Int.reduceLE, Int.reduceLT, Int.reduceEq, Int.reduceNeg, g1_8, g7_8, g8_8, k1_8, c14_l0, h17, h18, h20]
        cases h21 : (decide ((x19.toNat : Int) < 35))
        · simp only [D, DT, reduceIte, reduceCtorEq, Nat.reduceEqDiff, Nat.reduceAdd, Nat.reduceLT, Nat.reduceLeDiff, Nat.reduceBEq, Int.reduceLE, Int.reduceLT, Int.reduceEq, Int.reduceNeg, g1_8, g7_8, g8_8, k1_8, c14_l0, h17, h18, h20, h21]
          cases h22 : (decide ((126 : Int) < (x19.toNat : Int)))
          · simp only [D, DT, reduceIte, reduceCtorEq, Nat.reduceEqDiff, Nat.reduceAdd, Nat.reduceLT, Nat.reduceLeDiff, Nat.reduceBEq, Int.reduceLE, Int.reduceLT, Int.reduceEq, Int.reduceNeg, g1_8, g7_8, g8_8, k1_8, c14_l0, h17, h18, h20, h21, h22]
            exact hn _ _ _ ⟨(by first | (simp only [D, DT, reduceIte, reduceCtorEq, Nat.reduceEqDiff, Nat.reduceAdd, Nat.reduceLT, Nat.reduceLeDiff, Nat.reduceBEq, Int.reduceLE, Int.reduceLT, Int.reduceEq, Int.reduceNeg, g1_8, g7_8, g8_8, k1_8, c14_l0, h17, h18, h20, h21, h22] <;> rfl) | rfl), (by first | (simp only [D, DT, reduceIte, reduceCtorEq, Nat.reduceEqDiff, Nat.reduceAdd, Nat.reduceLT, Nat.reduceLeDiff, Nat.reduceBEq, Int.reduceLE, Int.reduceLT, Int.reduceEq, Int.reduceNeg, g1_8, g7_8, g8_8, k1_8, c14_l0, h17, h18, h20, h21, h22] <;> rfl) | rfl), (by first | (simp only [D, DT, reduceIte, reduceCtorEq, Nat.reduceEqDiff, Nat.reduceAdd, Nat.reduceLT, Nat.reduceLeDiff, Nat.reduceBEq, Int.reduceLE, Int.reduceLT, Int.reduceEq, Int.reduceNeg, g1_8, g7_8, g8_8, k1_8, c14_l0, h17, h18, h20, h21, h22] <;> rfl) | rfl), (by first | (simp only [D, DT, reduceIte, reduceCtorEq, Nat.reduceEqDiff, Nat.reduceAdd, Nat.reduceLT, Nat.reduceLeDiff, Nat.reduceBEq, Int.reduceLE, Int.reduceLT, Int.reduceEq, Int.reduceNeg, g1_8, g7_8, g8_8, k1_8, c14_l0, h17, h18, h20, h21, h22] <;> rfl) | rfl)⟩
          · simp only [D, DT, reduceIte, reduceCtorEq, Nat.reduceEqDiff, Nat.reduceAdd, Nat.reduceLT, Nat.reduceLeDiff, Nat.reduceBEq, Int.reduceLE, Int.reduceLT, Int.reduceEq, Int.reduceNeg, g1_8, g7_8, g8_8, k1_8, c14_l0, h17, h18, h20, h21, h22]
            exact (hret _ _ (by first | (simp only [D, DT, reduceIte, reduceCtorEq, Nat.reduceEqDiff, Nat.reduceAdd, Nat.reduceLT, Nat.reduceLeDiff, Nat.reduceBEq, Int.reduceLE, Int.reduceLT, Int.reduceEq, Int.reduceNeg, g1_8, g7_8, g8_8, k1_8, c14_l0, h17, h18, h20, h21, h22] <;> rfl) | rfl)).trans (hd _).symm
        · simp only [D, DT, reduceIte, reduceCtorEq, Nat.reduceEqDiff, Nat.reduceAdd, Nat.reduceLT, Nat.reduceLeDiff, Nat.reduceBEq, Int.reduceLE, Int.reduceLT, Int.reduceEq, Int.reduceNeg, g1_8, g7_8, g8_8, k1_8, c14_l0, h17, h18, h20, h21]
          exact (hret _ _ (by first | (simp only [D, DT, reduceIte, reduceCtorEq, Nat.reduceEqDiff, Nat.reduceAdd, Nat.reduceLT, Nat.reduceLeDiff, Nat.reduceBEq, Int.reduceLE, Int.reduceLT, Int.reduceEq, Int.reduceNeg, g1_8, g7_8, g8_8, k1_8, c14_l0, h17, h18, h20, h21] <;> rfl) | rfl)).trans (hd _).symm
      · simp only [D, DT, reduceIte, reduceCtorEq, Nat.reduceEqDiff, Nat.reduceAdd, Nat.reduceLT, Nat.reduceLeDiff, Nat.reduceBEq, Int.reduceLE, Int.reduceLT, Int.reduceEq, Int.reduceNeg, g1_8, g7_8, g8_8, k1_8, c14_l0, h17, h18, h20]
        exact hn _ _ _ ⟨(by first | (simp only [D, DT, reduceIte, reduceCtorEq, Nat.reduceEqDiff, Nat.reduceAdd, Nat.reduceLT, Nat.reduceLeDiff, Nat.reduceBEq, Int.reduceLE, Int.reduceLT, Int.reduceEq, Int.reduceNeg, g1_8, g7_8, g8_8, k1_8, c14_l0, h17, h18, h20] <;> rfl) | rfl), (by first | (simp only [D, DT, reduceIte, reduceCtorEq, Nat.reduceEqDiff, Nat.reduceAdd, Nat.reduceLT, Nat.reduceLeDiff, Nat.reduceBEq, Int.reduceLE, Int.reduceLT, Int.reduceEq, Int.reduceNeg, g1_8, g7_8, g8_8, k1_8, c14_l0, h17, h18, h20] <;> rfl) | rfl), (by first | (simp only [D, DT, reduceIte, reduceCtorEq, Nat.reduceEqDiff, Nat.reduceAdd, Nat.reduceLT, Nat.reduceLeDiff, Nat.reduceBEq, Int.reduceLE, Int.reduceLT, Int.reduceEq, Int.reduceNeg, g1_8, g7_8, g8_8, k1_8, c14_l0, h17, h18, h20] <;> rfl) | rfl), (by first | (simp only [D, DT, reduceIte, reduceCtorEq, Nat.reduceEqDiff, Nat.reduceAdd, Nat.reduceLT, Nat.reduceLeDiff, Nat.reduceBEq, Int.reduceLE, Int.reduceLT, Int.reduceEq, Int.reduceNeg, g1_8, g7_8, g8_8, k1_8, c14_l0, h17, h18, h20] <;> rfl) | rfl)⟩
noncomputable def tag_Right.a0 (a0 : api_Tag) : tag_Right.l0X → Option Bool
  | .x0 =>
    bif (decide ((0 : Int) < (a0.Text.length : Int))) then
      some (decide ((a0.Text.length : Int) ≤ 100))
    else
      some false
  | .ret =>
    some false
noncomputable def tag_Right.f (a0 : api_Tag) : Option Bool :=
  (loopL (tag_Right.l0B a0) 0).bind (tag_Right.a0 a0)
set_option maxHeartbeats 4000000 in
theorem tag_Right.ok (a0 : api_Tag) : ansL X 14 [(.agg [(.str a0.Text), (.bool a0.Weak)])] = Option.map AV.bool (tag_Right.f a0) := by
  rw [ansL_run (fd := c14) rfl rfl]
  simp only [D, DT, reduceIte, reduceCtorEq, Nat.reduceEqDiff, Nat.reduceAdd, Nat.reduceLT, Nat.reduceLeDiff, Nat.reduceBEq, Int.reduceLE, Int.reduceLT, Int.reduceEq, Int.reduceNeg, c14, tag_Right.f]
  refine Eq.trans (tag_Right.l0_ok (fun x => Option.map AV.bool (tag_Right.a0 a0 x)) a0 ?_ ?_ 0 _ _ (by first | (simp only [D, DT, reduceIte, reduceCtorEq, Nat.reduceEqDiff, Nat.reduceAdd, Nat.reduceLT, Nat.reduceLeDiff, Nat.reduceBEq, Int.reduceLE, Int.reduceLT, Int.reduceEq, Int.reduceNeg] <;> rfl) | rfl) (by first | (simp only [D, DT, reduceIte, reduceCtorEq, Nat.reduceEqDiff, Nat.reduceAdd, Nat.reduceLT, Nat.reduceLeDiff, Nat.reduceBEq, Int.reduceLE, Int.reduceLT, Int.reduceEq, Int.reduceNeg] <;> rfl) | rfl) (by first | (simp only [D, DT, reduceIte, reduceCtorEq, Nat.reduceEqDiff, Nat.reduceAdd, Nat.reduceLT, Nat.reduceLeDiff, Nat.reduceBEq, Int.reduceLE, Int.reduceLT, Int.reduceEq, Int.reduceNeg] <;> rfl) | rfl) (by first | (simp only [D, DT, reduceIte, reduceCtorEq, Nat.reduceEqDiff, Nat.reduceAdd, Nat.reduceLT, Nat.reduceLeDiff, Nat.reduceBEq, Int.reduceLE, Int.reduceLT, Int.reduceEq, Int.reduceNeg] <;> rfl) | rfl)) ?_
  · intro e_23 H_23 g1_15_23 k1_15_23
    simp only [D, DT, reduceIte, reduceCtorEq, Nat.reduceEqDiff, Nat.reduceAdd, Nat.reduceLT, Nat.reduceLeDiff, Nat.reduceBEq, Int.reduceLE, Int.reduceLT, Int.reduceEq, Int.reduceNeg, tag_Right.a0, g1_15_23, k1_15_23]
    cases h24 : (decide ((0 : Int) < (a0.Text.length : Int)))
    · simp only [D, DT, reduceIte, reduceCtorEq, Nat.reduceEqDiff, Nat.reduceAdd, Nat.reduceLT, Nat.reduceLeDiff, Nat.reduceBEq, Int.reduceLE, Int.reduceLT, Int.reduceEq, Int.reduceNeg, g1_15_23, k1_15_23, h24]
      try rfl
    · simp only [D, DT, reduceIte, reduceCtorEq, Nat.reduceEqDiff, Nat.reduceAdd, Nat.reduceLT, Nat.reduceLeDiff, Nat.reduceBEq, Int.reduceLE, Int.reduceLT, Int.reduceEq, Int.reduceNeg, g1_15_23, k1_15_23, h24]
      try rfl
  · intro e_25 H_25 g2_16_25
    simp only [D, DT, reduceIte, reduceCtorEq, Nat.reduceEqDiff, Nat.reduceAdd, Nat.reduceLT, Nat.reduceLeDiff, Nat.reduceBEq, Int.reduceLE, Int.reduceLT, Int.reduceEq, Int.reduceNeg, tag_Right.a0, g2_16_25]
    try rfl
  exact mb _ _ _
noncomputable def tag_Weak.f (a0 : api_Tag) (a1 : api_Tag) : Option Bool :=
  (tag_Right.f a0).bind fun x3 =>
  bif x3 then
    (tag_Right.f a1).bind fun x7 =>
    bif x7 then
      some (a0.Text == a1.Text)
    else
      some false
  else
    some false
set_option maxHeartbeats 4000000 in
theorem tag_Weak.ok (a0 : api_Tag) (a1 : api_Tag) : ansL X 16 [(.agg [(.str a0.Text), (.bool a0.Weak)]), (.agg [(.str a1.Text), (.bool a1.Weak)])] = Option.map AV.bool (tag_Weak.f a0 a1) := by
  rw [ansL_run (fd := c16) rfl rfl]
  simp only [D, DT, reduceIte, reduceCtorEq, Nat.reduceEqDiff, Nat.reduceAdd, Nat.reduceLT, Nat.reduceLeDiff, Nat.reduceBEq, Int.reduceLE, Int.reduceLT, Int.reduceEq, Int.reduceNeg, c16, tag_Weak.f]
  have c1 : ansL X 14 [(.agg [(.str a0.Text), (.bool a0.Weak)])] = Option.map AV.bool (tag_Right.f a0) := tag_Right.ok a0
  rcases h2 : tag_Right.f a0 with _ | x3
  · simp only [D, DT, reduceIte, reduceCtorEq, Nat.reduceEqDiff, Nat.reduceAdd, Nat.reduceLT, Nat.reduceLeDiff, Nat.reduceBEq, Int.reduceLE, Int.reduceLT, Int.reduceEq, Int.reduceNeg, c1, h2]
  · simp only [D, DT, reduceIte, reduceCtorEq, Nat.reduceEqDiff, Nat.reduceAdd, Nat.reduceLT, Nat.reduceLeDiff, Nat.reduceBEq, Int.reduceLE, Int.reduceLT, Int.reduceEq, Int.reduceNeg, c1, h2]
    cases h4 : x3
    · simp only [D, DT, reduceIte, reduceCtorEq, Nat.reduceEqDiff, Nat.reduceAdd, Nat.reduceLT, Nat.reduceLeDiff, Nat.reduceBEq, Int.reduceLE, Int.reduceLT, Int.reduceEq, Int.reduceNeg, c1, h2, h4]
      try rfl
    · simp only [D, DT, reduceIte, reduceCtorEq, Nat.reduceEqDiff, Nat.reduceAdd, Nat.reduceLT, Nat.reduceLeDiff, Nat.reduceBEq, Int.reduceLE, Int.reduceLT, Int.reduceEq, Int.reduceNeg, c1, h2, h4]
      have c5 : ansL X 14 [(.agg [(.str a1.Text), (.bool a1.Weak)])] = Option.map AV.bool (tag_Right.f a1) := tag_Right.ok a1
      rcases h6 : tag_Right.f a1 with _ | x7
      · simp only [D, DT, reduceIte, reduceCtorEq, Nat.reduceEqDiff, Nat.reduceAdd, Nat.reduceLT, Nat.reduceLeDiff, Nat.reduceBEq, Int.reduceLE, Int.reduceLT, Int.reduceEq, Int.reduceNeg, c1, h2, h4, c5, h6]
      · simp only [D, DT, reduceIte, reduceCtorEq, Nat.reduceEqDiff, Nat.reduceAdd, Nat.reduceLT, Nat.reduceLeDiff, Nat.reduceBEq, Int.reduceLE, Int.reduceLT, Int.reduceEq, Int.reduceNeg, c1, h2, h4, c5, h6]
        cases h8 : x7
        · simp only [D, DT, reduceIte, reduceCtorEq, Nat.reduceEqDiff, Nat.reduceAdd, Nat.reduceLT, Nat.reduceLeDiff, Nat.reduceBEq, Int.reduceLE, Int.reduceLT, Int.reduceEq, Int.reduceNeg, c1, h2, h4, c5, h6, h8]
          try rfl
        · simp only [D, DT, reduceIte, reduceCtorEq, Nat.reduceEqDiff, Nat.reduceAdd, Nat.reduceLT, Nat.reduceLeDiff, Nat.reduceBEq, Int.reduceLE, Int.reduceLT, Int.reduceEq, Int.reduceNeg, c1, h2, h4, c5, h6, h8]
          try rfl
noncomputable def tag_Strong.f (a0 : api_Tag) (a1 : api_Tag) : Option Bool :=
  (tag_Weak.f a0 a1).bind fun x3 =>
  bif x3 then
    bif a0.Weak then
      some false
    else
      some (!a1.Weak)
  else
    some false
set_option maxHeartbeats 4000000 in
theorem tag_Strong.ok (a0 : api_Tag) (a1 : api_Tag) : ansL X 11 [(.agg [(.str a0.Text), (.bool a0.Weak)]), (.agg [(.str a1.Text), (.bool a1.Weak)])] = Option.map AV.bool (tag_Strong.f a0 a1) := by
  rw [ansL_run (fd := c11) rfl rfl]
  simp only [D, DT, reduceIte, reduceCtorEq, Nat.reduceEqDiff, Nat.reduceAdd, Nat.reduceLT, Nat.reduceLeDiff, Nat.reduceBEq, Int.reduceLE, Int.reduceLT, Int.reduceEq, Int.reduceNeg, c11, tag_Strong.f]
  have c1 : ansL X 16 [(.agg [(.str a0.Text), (.bool a0.Weak)]), (.agg [(.str a1.Text), (.bool a1.Weak)])] = Option.map AV.bool (tag_Weak.f a0 a1) := tag_Weak.ok a0 a1
  rcases h2 : tag_Weak.f a0 a1 with _ | x3
  · simp only [D, DT, reduceIte, reduceCtorEq, Nat.reduceEqDiff, Nat.reduceAdd, Nat.reduceLT, Nat.reduceLeDiff, Nat.reduceBEq, Int.reduceLE, Int.reduceLT, Int.reduceEq, Int.reduceNeg, c1, h2]
  · simp only [D, DT, reduceIte, reduceCtorEq, Nat.reduceEqDiff, Nat.reduceAdd, Nat.reduceLT, Nat.reduceLeDiff, Nat.reduceBEq, Int.reduceLE, Int.reduceLT, Int.reduceEq, Int.reduceNeg, c1, h2]
    cases h4 : x3
    · simp only [D, DT, reduceIte, reduceCtorEq, Nat.reduceEqDiff, Nat.reduceAdd, Nat.reduceLT, Nat.reduceLeDiff, Nat.reduceBEq, Int.reduceLE, Int.reduceLT, Int.reduceEq, Int.reduceNeg, c1, h2, h4]
      try rfl
    · simp only [D, DT, reduceIte, reduceCtorEq, Nat.reduceEqDiff, Nat.reduceAdd, Nat.reduceLT, Nat.reduceLeDiff, Nat.reduceBEq, Int.reduceLE, Int.reduceLT, Int.reduceEq, Int.reduceNeg, c1, h2, h4]
      cases h5 : a0.Weak
      · simp only [D, DT, reduceIte, reduceCtorEq, Nat.reduceEqDiff, Nat.reduceAdd, Nat.reduceLT, Nat.reduceLeDiff, Nat.reduceBEq, Int.reduceLE, Int.reduceLT, Int.reduceEq, Int.reduceNeg, c1, h2, h4, h5]
        try rfl
      · simp only [D, DT, reduceIte, reduceCtorEq, Nat.reduceEqDiff, Nat.reduceAdd, Nat.reduceLT, Nat.reduceLeDiff, Nat.reduceBEq, Int.reduceLE, Int.reduceLT, Int.reduceEq, Int.reduceNeg, c1, h2, h4, h5]
        try rfl
inductive tag_In.l0X where
  | x0
  | ret (v19_4 : Int)
noncomputable def tag_In.l0B (a0 : (List api_Tag)) (a1 : api_Tag) (v10_8 : Int) : Option (Step (Int) tag_In.l0X) :=
  bif (decide (v10_8 < (a0.length : Int))) then
    (idx a0 v10_8).bind fun x22 =>
    (tag_Weak.f x22 a1).bind fun x25 =>
    bif x25 then
      some (.done (.ret v10_8))
    else
      some (.next (IntKind.i64.wrap (v10_8 + 1)))
  else
    some (.done (.x0))
set_option maxHeartbeats 4000000 in
theorem tag_In.l0_ok {α : Type} {F : Env → Heap → Option α} {K : List Fr} (fin : tag_In.l0X → Option α) (a0 : (List api_Tag)) (a1 : api_Tag)
    (hx0 : ∀ (e : Env) (H : Heap), H [4] = (1, some ⟨false, false, 2, [(.agg [(.str a1.Text), (.bool a1.Weak)])]⟩) → H [7] = (1, some ⟨false, false, 1, [(.fn 16 [])]⟩) → outL X [7, 11] F K e H 0 = fin (.x0))
    (hret : ∀ (v19_4 : Int) (e : Env) (H : Heap), e 4 = (.int .i64 v19_4) → H [4] = (1, some ⟨false, false, 2, [(.agg [(.str a1.Text), (.bool a1.Weak)])]⟩) → H [7] = (1, some ⟨false, false, 1, [(.fn 16 [])]⟩) → F e H = fin (.ret v19_4)) (v10_8 : Int) (e : Env) (H : Heap) (g0_10 : e 0 = (.sl (encL api_Tag.enc a0))) (g1_10 : e 1 = (.fn 20 [(.ptr [7] 1 0 0), (.ptr [4] 1 0 0)])) (g7_10 : e 7 = (.int .i64 (a0.length : Int))) (g8_10 : e 8 = (.int .i64 v10_8)) (k4_10 : H [4] = (1, some ⟨false, false, 2, [(.agg [(.str a1.Text), (.bool a1.Weak)])]⟩)) (k7_10 : H [7] = (1, some ⟨false, false, 1, [(.fn 16 [])]⟩)) :
    runL X [7, 11] F (.c (.loop c21_l0) :: K) e H = (loopL (tag_In.l0B a0 a1) v10_8).bind fin := by
  refine loop_of (R := fun (v10_8 : Int) (e : Env) (H : Heap) => e 0 = (.sl (encL api_Tag.enc a0)) ∧ e 1 = (.fn 20 [(.ptr [7] 1 0 0), (.ptr [4] 1 0 0)]) ∧ e 7 = (.int .i64 (a0.length : Int)) ∧ e 8 = (.int .i64 v10_8) ∧ H [4] = (1, some ⟨false, false, 2, [(.agg [(.str a1.Text), (.bool a1.Weak)])]⟩) ∧ H [7] = (1, some ⟨false, false, 1, [(.fn 16 [])]⟩)) fin ?_ ⟨g0_10, g1_10, g7_10, g8_10, k4_10, k7_10⟩
  clear k7_10 k4_10 g8_10 g7_10 g1_10 g0_10 e H v10_8
  intro n G hn hd s e H hR
  revert hR; revert s; intro v10_8 hR
  obtain ⟨g0_10, g1_10, g7_10, g8_10, k4_10, k7_10⟩ := hR
  simp only [D, DT, reduceIte, reduceCtorEq, Nat.reduceEqDiff, Nat.reduceAdd, Nat.reduceLT, Nat.reduceLeDiff, Nat.reduceBEq, Int.reduceLE, Int.reduceLT, Int.reduceEq, Int.reduceNeg, tag_In.l0B, g0_10, g1_10, g7_10, g8_10, k4_10, k7_10, c21_l0]
  cases h20 : (decide (v10_8 < (a0.length : Int)))
  · simp only [D, DT, reduceIte, reduceCtorEq, Nat.reduceEqDiff, Nat.reduceAdd, Nat.reduceLT, Nat.reduceLeDiff, Nat.reduceBEq, Int.reduceLE, Int.reduceLT, Int.reduceEq, Int.reduceNeg, g0_10, g1_10, g7_10, g8_10, k4_10, k7_10, c21_l0, h20]
    exact (hx0 _ _ (by first | (simp only [D, DT, reduceIte, reduceCtorEq, Nat.reduceEqDiff, Nat.reduceAdd, Nat.reduceLT, Nat.reduceLeDiff, Nat.reduceBEq, Int.reduceLE, Int.reduceLT, Int.reduceEq, Int.reduceNeg, g0_10, g1_10, g7_10, g8_10, k4_10, k7_10, c21_l0, h20] <;> rfl) | rfl) (by first | (simp only [D, DT, reduceIte, reduceCtorEq, Nat.reduceEqDiff, Nat.reduceAdd, Nat.reduceLT, Nat.reduceLeDiff, Nat.reduceBEq, Int.reduceLE, Int.reduceLT, Int.reduceEq, Int.reduceNeg, g0_10, g1_10, g7_10, g8_10, k4_10, k7_10, c21_l0, h20] <;> rfl) | rfl)).trans (hd _).symm
  · simp only [D, DT, reduceIte, reduceCtorEq, Nat.reduceEqDiff, Nat.reduceAdd, Nat.reduceLT, Nat.reduceLeDiff, Nat.reduceBEq, Int.reduceLE, Int.reduceLT, Int.reduceEq, Int.reduceNeg, g0_10, g1_10, g7_10, g8_10, k4_10, k7_10, c21_l0, h20]
    rcases h21 : idx a0 v10_8 with _ | x22
    · simp only [D, DT, reduceIte, reduceCtorEq, Nat.reduceEqDiff, Nat.reduceAdd, Nat.reduceLT, Nat.reduceLeDiff, Nat.reduceBEq, Int.reduceLE, Int.reduceLT, Int.reduceEq, Int.reduceNeg, g0_10, g1_10, g7_10, g8_10, k4_10, k7_10, c21_l0, h20, h21]
    · simp only [D, DT, reduceIte, reduceCtorEq, Nat.reduceEqDiff, Nat.reduceAdd, Nat.reduceLT, Nat.reduceLeDiff, Nat.reduceBEq, Int.reduceLE, Int.reduceLT, Int.reduceEq, Int.reduceNeg, g0_10, g1_10, g7_10, g8_10, k4_10, k7_10, c21_l0, h20, h21]
      rw [call_in (fd := c20) rfl]
      simp only [D, DT, reduceIte, reduceCtorEq, Nat.reduceEqDiff, Nat.reduceAdd, Nat.reduceLT, Nat.reduceLeDiff, Nat.reduceBEq, Int.reduceLE, Int.reduceLT, Int.reduceEq, Int.reduceNeg, c20, g0_10, g1_10, g7_10, g8_10, k4_10, k7_10, c21_l0, h20, h21]
      have c23 : ansL X 16 [(.agg [(.str x22.Text), (.bool x22.Weak)]), (.agg [(.str a1.Text), (.bool a1.Weak)])] = Option.map AV.bool (tag_Weak.f x22 a1) := tag_Weak.ok x22 a1
      rcases h24 : tag_Weak.f x22 a1 with _ | x25
      · simp only [D, DT, reduceIte, reduceCtorEq, Nat.reduceEqDiff, Nat.reduceAdd, Nat.reduceLT, Nat.reduceLeDiff, Nat.reduceBEq, Int.reduceLE, Int.reduceLT, Int.reduceEq, Int.reduceNeg, g0_10, g1_10, g7_10, g8_10, k4_10, k7_10, c21_l0, h20, h21, c23, h24]
      · simp only [D, DT, reduceIte, reduceCtorEq, Nat.reduceEqDiff, Nat.reduceAdd, Nat.reduceLT, Nat.reduceLeDiff, Nat.reduceBEq, Int.reduceLE, Int.reduceLT, Int.reduceEq, Int.reduceNeg, g0_10, g1_10, g7_10, g8_10, k4_10, k7_10, c21_l0, h20, h21, c23, h24]
        cases h26 : x25
        · simp only [D, DT, reduceIte, reduceCtorEq, Nat.reduceEqDiff, Nat.reduceAdd, Nat.reduceLT, Nat.reduceLeDiff, Nat.reduceBEq, Int.reduceLE, Int.reduceLT, Int.reduceEq, Int.reduceNeg, g0_10, g1_10, g7_10, g8_10, k4_10, k7_10, c21_l0, h20, h21, c23, h24, h26]
          exact hn _ _ _ ⟨(by first | (simp only [D, DT, reduceIte, reduceCtorEq, Nat.reduceEqDiff, Nat.reduceAdd, Nat.reduceLT, Nat.reduceLeDiff, Nat.reduceBEq, Int.reduceLE, Int.reduceLT, Int.reduceEq, Int.reduceNeg, g0_10, g1_10, g7_10, g8_10, k4_10, k7_10, c21_l0, h20, h21, c23, h24, h26] <;> rfl) | rfl), (by first | (simp only [D, DT, reduceIte, reduceCtorEq, Nat.reduceEqDiff, Nat.reduceAdd, Nat.reduceLT, Nat.reduceLeDiff, Nat.reduceBEq, Int.reduceLE, Int.reduceLT, Int.reduceEq, Int.reduceNeg, g0_10, g1_10, g7_10, g8_10, k4_10, k7_10, c21_l0, h20, h21, c23, h24, h26] <;> rfl) | rfl), (by first | (simp only [D, DT, reduceIte, reduceCtorEq, Nat.reduceEqDiff, Nat.reduceAdd, Nat.reduceLT, Nat.reduceLeDiff, Nat.reduceBEq, Int.reduceLE, Int.reduceLT, Int.reduceEq, Int.reduceNeg, g0_10, g1_10, g7_10, g8_10, k4_10, k7_10, c21_l0, h20, h21, c23, h24, h26] <;> rfl) | rfl), (by first | (simp only [D, DT, reduceIte, reduceCtorEq, Nat.reduceEqDiff, Nat.reduceAdd, Nat.reduceLT, Nat.reduceLeDiff, Nat.reduceBEq, Int.reduceLE, Int.reduceLT, Int.reduceEq, Int.reduceNeg, g0_10, g1_10, g7_10, g8_10, k4_10, k7_10, c21_l0, h20, h21, c23, h24, h26] <;> rfl) | rfl), (by first | (simp only [D, DT, reduceIte, reduceCtorEq, Nat.reduceEqDiff, Nat.reduceAdd, Nat.reduceLT, Nat.reduceLeDiff, Nat.reduceBEq, Int.reduceLE, Int.reduceLT, Int.reduceEq, Int.reduceNeg, g0_10, g1_10, g7_10, g8_10, k4_10, k7_10, c21_l0, h20, h21, c23, h24, h26] <;> rfl) | rfl), (by first | (simp only [D, DT, reduceIte, reduceCtorEq, Nat.reduceEqDiff, Nat.reduceAdd, Nat.reduceLT, Nat.reduceLeDiff, Nat.reduceBEq, Int.reduceLE, Int.reduceLT, Int.reduceEq, Int.reduceNeg, g0_10, g1_10, g7_10, g8_10, k4_10, k7_10, c21_l0, h20, h21, c23, h24, h26] <;> rfl) | rfl)⟩
        · simp only [D, DT, reduceIte, reduceCtorEq, Nat.reduceEqDiff, Nat.reduceAdd, Nat.reduceLT, Nat.reduceLeDiff, Nat.reduceBEq, Int.reduceLE, Int.reduceLT, Int.reduceEq, Int.reduceNeg, g0_10, g1_10, g7_10, g8_10, k4_10, k7_10, c21_l0, h20, h21, c23, h24, h26]
          exact (hret v10_8 _ _ (by first | (simp only [D, DT, reduceIte, reduceCtorEq, Nat.reduceEqDiff, Nat.reduceAdd, Nat.reduceLT, Nat.reduceLeDiff, Nat.reduceBEq, Int.reduceLE, Int.reduceLT, Int.reduceEq, Int.reduceNeg, g0_10, g1_10, g7_10, g8_10, k4_10, k7_10, c21_l0, h20, h21, c23, h24, h26] <;> rfl) | rfl) (by first | (simp only [D, DT, reduceIte, reduceCtorEq, Nat.reduceEqDiff, Nat.reduceAdd, Nat.reduceLT, Nat.reduceLeDiff, Nat.reduceBEq, Int.reduceLE, Int.reduceLT, Int.reduceEq, Int.reduceNeg, g0_10, g1_10, g7_10, g8_10, k4_10, k7_10, c21_l0, h20, h21, c23, h24, h26] <;> rfl) | rfl) (by first | (simp only [D, DT, reduceIte, reduceCtorEq, Nat.reduceEqDiff, Nat.reduceAdd, Nat.reduceLT, Nat.reduceLeDiff, Nat.reduceBEq, Int.reduceLE, Int.reduceLT, Int.reduceEq, Int.reduceNeg, g0_10, g1_10, g7_10, g8_10, k4_10, k7_10, c21_l0, h20, h21, c23, h24, h26] <;> rfl) | rfl)).trans (hd _).symm
noncomputable def tag_In.a0 : tag_In.l0X → Option Bool
  | .x0 =>
    some false
  | .ret v19_4 =>
    some (decide ((0 : Int) ≤ v19_4))
inductive tag_In.l1X where
  | x0
  | ret (v46_4 : Int)
noncomputable def tag_In.l1B (a0 : (List api_Tag)) (a1 : api_Tag) (v37_8 : Int) : Option (Step (Int) tag_In.l1X) :=
  bif (decide (v37_8 < (a0.length : Int))) then
    (idx a0 v37_8).bind fun x49 =>
    (tag_Strong.f x49 a1).bind fun x52 =>
    bif x52 then
      some (.done (.ret v37_8))
    else
      some (.next (IntKind.i64.wrap (v37_8 + 1)))
  else
    some (.done (.x0))
set_option maxHeartbeats 4000000 in
theorem tag_In.l1_ok {α : Type} {F : Env → Heap → Option α} {K : List Fr} (fin : tag_In.l1X → Option α) (a0 : (List api_Tag)) (a1 : api_Tag)
    (hx0 : ∀ (e : Env) (H : Heap), H [4] = (1, some ⟨false, false, 2, [(.agg [(.str a1.Text), (.bool a1.Weak)])]⟩) → H [7] = (1, some ⟨false, false, 1, [(.fn 11 [])]⟩) → outL X [7, 11] F K e H 0 = fin (.x0))
    (hret : ∀ (v46_4 : Int) (e : Env) (H : Heap), e 4 = (.int .i64 v46_4) → H [4] = (1, some ⟨false, false, 2, [(.agg [(.str a1.Text), (.bool a1.Weak)])]⟩) → H [7] = (1, some ⟨false, false, 1, [(.fn 11 [])]⟩) → F e H = fin (.ret v46_4)) (v37_8 : Int) (e : Env) (H : Heap) (g0_37 : e 0 = (.sl (encL api_Tag.enc a0))) (g1_37 : e 1 = (.fn 20 [(.ptr [7] 1 0 0), (.ptr [4] 1 0 0)])) (g7_37 : e 7 = (.int .i64 (a0.length : Int))) (g8_37 : e 8 = (.int .i64 v37_8)) (k4_37 : H [4] = (1, some ⟨false, false, 2, [(.agg [(.str a1.Text), (.bool a1.Weak)])]⟩)) (k7_37 : H [7] = (1, some ⟨false, false, 1, [(.fn 11 [])]⟩)) :
    runL X [7, 11] F (.c (.loop c21_l0) :: K) e H = (loopL (tag_In.l1B a0 a1) v37_8).bind fin := by
  refine loop_of (R := fun (v37_8 : Int) (e : Env) (H : Heap) => e 0 = (.sl (encL api_Tag.enc a0)) ∧ e 1 = (.fn 20 [(.ptr [7] 1 0 0), (.ptr [4] 1 0 0)]) ∧ e 7 = (.int .i64 (a0.length : Int)) ∧ e 8 = (.int .i64 v37_8) ∧ H [4] = (1, some ⟨false, false, 2, [(.agg [(.str a1.Text), (.bool a1.Weak)])]⟩) ∧ H [7] = (1, some ⟨false, false, 1, [(.fn 11 [])]⟩)) fin ?_ ⟨g0_37, g1_37, g7_37, g8_37, k4_37, k7_37⟩
  clear k7_37 k4_37 g8_37 g7_37 g1_37 g0_37 e H v37_8
  intro n G hn hd s e H hR
  revert hR; revert s; intro v37_8 hR
  obtain ⟨g0_37, g1_37, g7_37, g8_37, k4_37, k7_37⟩ := hR
  simp only [D, DT, reduceIte, reduceCtorEq, Nat.reduceEqDiff, Nat.reduceAdd, Nat.reduceLT, Nat.reduceLeDiff, Nat.reduceBEq, Int.reduceLE, Int.reduceLT, Int.reduceEq, Int.reduceNeg, tag_In.l1B, g0_37, g1_37, g7_37, g8_37, k4_37, k7_37, c21_l0]
  cases h47 : (decide (v37_8 < (a0.length : Int)))
  · simp only [D, DT, reduceIte, reduceCtorEq, Nat.reduceEqDiff, Nat.reduceAdd, Nat.reduceLT, Nat.reduceLeDiff, Nat.reduceBEq, Int.reduceLE, Int.reduceLT, Int.reduceEq, Int.reduceNeg, g0_37, g1_37, g7_37, g8_37, k4_37, k7_37, c21_l0, h47]
    exact (hx0 _ _ (by first | (simp only [D, DT, reduceIte, reduceCtorEq, Nat.reduceEqDiff, Nat.reduceAdd, Nat.reduceLT, Nat.reduceLeDiff, Nat.reduceBEq, Int.reduceLE, Int.reduceLT, Int.reduceEq, Int.reduceNeg, g0_37, g1_37, g7_37, g8_37, k4_37, k7_37, c21_l0, h47] <;> rfl) | rfl) (by first | (simp only [D, DT, reduceIte, reduceCtorEq, Nat.reduceEqDiff, Nat.reduceAdd, Nat.reduceLT, Nat.reduceLeDiff, Nat.reduceBEq, Int.reduceLE, Int.reduceLT, Int.reduceEq, Int.reduceNeg, g0_37, g1_37, g7_37, g8_37, k4_37, k7_37, c21_l0, h47] <;> rfl) | rfl)).trans (hd _).symm
  · simp only [D, DT, reduceIte, reduceCtorEq, Nat.reduceEqDiff, Nat.reduceAdd, Nat.reduceLT, Nat.reduceLeDiff, Nat.reduceBEq, Int.reduceLE, Int.reduceLT, Int.reduceEq, Int.reduceNeg, g0_37, g1_37, g7_37, g8_37, k4_37, k7_37, c21_l0, h47]
    rcases h48 : idx a0 v37_8 with _ | x49
    · simp only [D, DT, reduceIte, reduceCtorEq, Nat.reduceEqDiff, Nat.reduceAdd, Nat.reduceLT, Nat.reduceLeDiff, Nat.reduceBEq, Int.reduceLE, Int.reduceLT, Int.reduceEq, Int.reduceNeg, g0_37, g1_37, g7_37, g8_37, k4_37, k7_37, c21_l0, h47, h48]
    · simp only [D, DT, reduceIte, reduceCtorEq, Nat.reduceEqDiff, Nat.reduceAdd, Nat.reduceLT, Nat.reduceLeDiff, Nat.reduceBEq, Int.reduceLE, Int.reduceLT, Int.reduceEq, Int.reduceNeg, g0_37, g1_37, g7_37, g8_37, k4_37, k7_37, c21_l0, h47, h48]
      rw [call_in (fd := c20) rfl]
      simp only [D, DT, reduceIte, reduceCtorEq, Nat.reduceEqDiff, Nat.reduceAdd, Nat.reduceLT, Nat.reduceLeDiff, Nat.reduceBEq, Int.reduceLE, Int.reduceLT, Int.reduceEq, Int.reduceNeg, c20, g0_37, g1_37, g7_37, g8_37, k4_37, k7_37, c21_l0, h47, h48]
      have c50 : ansL X 11 [(.agg [(.str x49.Text), (.bool x49.Weak)]), (.agg [(.str a1.Text), (.bool a1.Weak)])] = Option.map AV.bool (tag_Strong.f x49 a1) := tag_Strong.ok x49 a1
      rcases h51 : tag_Strong.f x49 a1 with _ | x52
      · simp only [D, DT, reduceIte, reduceCtorEq, Nat.reduceEqDiff, Nat.reduceAdd, Nat.reduceLT, Nat.reduceLeDiff, Nat.reduceBEq, Int.reduceLE, Int.reduceLT, Int.reduceEq, Int.reduceNeg, g0_37, g1_37, g7_37, g8_37, k4_37, k7_37, c21_l0, h47, h48, c50, h51]
      · simp only [D, DT, reduceIte, reduceCtorEq, Nat.reduceEqDiff, Nat.reduceAdd, Nat.reduceLT, Nat.reduceLeDiff, Nat.reduceBEq, Int.reduceLE, Int.reduceLT, Int.reduceEq, Int.reduceNeg, g0_37, g1_37, g7_37, g8_37, k4_37, k7_37, c21_l0, h47, h48, c50, h51]
        cases h53 : x52
        · simp only [D, DT, reduceIte, reduceCtorEq, Nat.reduceEqDiff, Nat.reduceAdd, Nat.reduceLT, Nat.reduceLeDiff, Nat.reduceBEq, Int.reduceLE, Int.reduceLT, Int.reduceEq, Int.reduceNeg, g0_37, g1_37, g7_37, g8_37, k4_37, k7_37, c21_l0, h47, h48, c50, h51, h53]
          exact hn _ _ _ ⟨(by first | (simp only [D, DT, reduceIte, reduceCtorEq, Nat.reduceEqDiff, Nat.reduceAdd, Nat.reduceLT, Nat.reduceLeDiff, Nat.reduceBEq, Int.reduceLE, Int.reduceLT, Int.reduceEq, Int.reduceNeg, g0_37, g1_37, g7_37, g8_37, k4_37, k7_37, c21_l0, h47, h48, c50, h51, h53] <;> rfl) | rfl), (by first | (simp only [D, DT, reduceIte, reduceCtorEq, Nat.reduceEqDiff, Nat.reduceAdd, Nat.reduceLT, Nat.reduceLeDiff, Nat.reduceBEq, Int.reduceLE, Int.reduceLT, Int.reduceEq, Int.reduceNeg, g0_37, g1_37, g7_37, g8_37, k4_37, k7_37, c21_l0, h47, h48, c50, h51, h53] <;> rfl) | rfl), (by first | (simp only [D, DT, reduceIte, reduceCtorEq, Nat.reduceEqDiff, Nat.reduceAdd, Nat.reduceLT, Nat.reduceLeDiff, Nat.reduceBEq, Int.reduceLE, Int.reduceLT, Int.reduceEq, Int.reduceNeg, g0_37, g1_37, g7_37, g8_37, k4_37, k7_37, c21_l0, h47, h48, c50, h51, h53] <;> rfl) | rfl), (by first | (simp only [D, DT, reduceIte, reduceCtorEq, Nat.reduceEqDiff, Nat.reduceAdd, Nat.reduceLT, Nat.reduceLeDiff, Nat.reduceBEq, Int.reduceLE, Int.reduceLT, Int.reduceEq, Int.reduceNeg, g0_37, g1_37, g7_37, g8_37, k4_37, k7_37, c21_l0, h47, h48, c50, h51, h53] <;> rfl) | rfl), (by first | (simp only [D, DT, reduceIte, reduceCtorEq, Nat.reduceEqDiff, Nat.reduceAdd, Nat.reduceLT, Nat.reduceLeDiff, Nat.reduceBEq, Int.reduceLE, Int.reduceLT, Int.reduceEq, Int.reduceNeg, g0_37, g1_37, g7_37, g8_37, k4_37, k7_37, c21_l0, h47, h48, c50, h51, h53] <;> rfl) | rfl), (by first | (simp only [D, DT, reduceIte, reduceCtorEq, Nat.reduceEqDiff, Nat.reduceAdd, Nat.reduceLT, Nat.reduceLeDiff, Nat.reduceBEq, Int.reduceLE, Int.reduceLT, Int.reduceEq, Int.reduceNeg, g0_37, g1_37, g7_37, g8_37, k4_37, k7_37, c21_l0, h47, h48, c50, h51, h53] <;> rfl) | rfl)⟩
        · simp only [D, DT, reduceIte, reduceCtorEq, Nat.reduceEqDiff, Nat.reduceAdd, Nat.reduceLT, Nat.reduceLeDiff, Nat.reduceBEq, Int.reduceLE, Int.reduceLT, Int.reduceEq, Int.reduceNeg, g0_37, g1_37, g7_37, g8_37, k4_37, k7_37, c21_l0, h47, h48, c50, h51, h53]
          exact (hret v37_8 _ _ (by first | (simp only [D, DT, reduceIte, reduceCtorEq, Nat.reduceEqDiff, Nat.reduceAdd, Nat.reduceLT, Nat.reduceLeDiff, Nat.reduceBEq, Int.reduceLE, Int.reduceLT, Int.reduceEq, Int.reduceNeg, g0_37, g1_37, g7_37, g8_37, k4_37, k7_37, c21_l0, h47, h48, c50, h51, h53] <;> rfl) | rfl) (by first | (simp only [D, DT, reduceIte, reduceCtorEq, Nat.reduceEqDiff, Nat.reduceAdd, Nat.reduceLT, Nat.reduceLeDiff, Nat.reduceBEq, Int.reduceLE, Int.reduceLT, Int.reduceEq, Int.reduceNeg, g0_37, g1_37, g7_37, g8_37, k4_37, k7_37, c21_l0, h47, h48, c50, h51, h53] <;> rfl) | rfl) (by first | (simp only [D, DT, reduceIte, reduceCtorEq, Nat.reduceEqDiff, Nat.reduceAdd, Nat.reduceLT, Nat.reduceLeDiff, Nat.reduceBEq, Int.reduceLE, Int.reduceLT, Int.reduceEq, Int.reduceNeg, g0_37, g1_37, g7_37, g8_37, k4_37, k7_37, c21_l0, h47, h48, c50, h51, h53] <;> rfl) | rfl)).trans (hd _).symm
noncomputable def tag_In.a1 : tag_In.l1X → Option Bool
  | .x0 =>
    some false
  | .ret v46_4 =>
    some (decide ((0 : Int) ≤ v46_4))
noncomputable def tag_In.f (a0 : (List api_Tag)) (a1 : api_Tag) (a2 : Bool) : Option Bool :=
  bif a2 then
    (loopL (tag_In.l1B a0 a1) 0).bind (tag_In.a1)
  else
    (loopL (tag_In.l0B a0 a1) 0).bind (tag_In.a0)
set_option maxHeartbeats 4000000 in
theorem tag_In.ok (a0 : (List api_Tag)) (a1 : api_Tag) (a2 : Bool) : ansL X 15 [(.sl (encL api_Tag.enc a0)), (.agg [(.str a1.Text), (.bool a1.Weak)]), (.bool a2)] = Option.map AV.bool (tag_In.f a0 a1 a2) := by
  rw [ansL_run (fd := c15) rfl rfl]
  simp only [D, DT, reduceIte, reduceCtorEq, Nat.reduceEqDiff, Nat.reduceAdd, Nat.reduceLT, Nat.reduceLeDiff, Nat.reduceBEq, Int.reduceLE, Int.reduceLT, Int.reduceEq, Int.reduceNeg, c15, tag_In.f]
  cases h1 : a2
  · simp only [D, DT, reduceIte, reduceCtorEq, Nat.reduceEqDiff, Nat.reduceAdd, Nat.reduceLT, Nat.reduceLeDiff, Nat.reduceBEq, Int.reduceLE, Int.reduceLT, Int.reduceEq, Int.reduceNeg, h1]
    rw [call_in (fd := c17) rfl]
    simp only [D, DT, reduceIte, reduceCtorEq, Nat.reduceEqDiff, Nat.reduceAdd, Nat.reduceLT, Nat.reduceLeDiff, Nat.reduceBEq, Int.reduceLE, Int.reduceLT, Int.reduceEq, Int.reduceNeg, c17, h1]
    rw [call_in (fd := c21) rfl]
    simp only [D, DT, reduceIte, reduceCtorEq, Nat.reduceEqDiff, Nat.reduceAdd, Nat.reduceLT, Nat.reduceLeDiff, Nat.reduceBEq, Int.reduceLE, Int.reduceLT, Int.reduceEq, Int.reduceNeg, c21, h1]
    refine Eq.trans (tag_In.l0_ok (fun x => Option.map AV.bool (tag_In.a0 x)) a0 a1 ?_ ?_ 0 _ _ (by first | (simp only [D, DT, reduceIte, reduceCtorEq, Nat.reduceEqDiff, Nat.reduceAdd, Nat.reduceLT, Nat.reduceLeDiff, Nat.reduceBEq, Int.reduceLE, Int.reduceLT, Int.reduceEq, Int.reduceNeg, h1] <;> rfl) | rfl) (by first | (simp only [D, DT, reduceIte, reduceCtorEq, Nat.reduceEqDiff, Nat.reduceAdd, Nat.reduceLT, Nat.reduceLeDiff, Nat.reduceBEq, Int.reduceLE, Int.reduceLT, Int.reduceEq, Int.reduceNeg, h1] <;> rfl) | rfl) (by first | (simp only [D, DT, reduceIte, reduceCtorEq, Nat.reduceEqDiff, Nat.reduceAdd, Nat.reduceLT, Nat.reduceLeDiff, Nat.reduceBEq, Int.reduceLE, Int.reduceLT, Int.reduceEq, Int.reduceNeg, h1] <;> rfl) | rfl) (by first | (simp only [D, DT, reduceIte, reduceCtorEq, Nat.reduceEqDiff, Nat.reduceAdd, Nat.reduceLT, Nat.reduceLeDiff, Nat.reduceBEq, Int.reduceLE, Int.reduceLT, Int.reduceEq, Int.reduceNeg, h1] <;> rfl) | rfl) (by first | (simp only [D, DT, reduceIte, reduceCtorEq, Nat.reduceEqDiff, Nat.reduceAdd, Nat.reduceLT, Nat.reduceLeDiff, Nat.reduceBEq, Int.reduceLE, Int.reduceLT, Int.reduceEq, Int.reduceNeg, h1] <;> rfl) | rfl) (by first | (simp only [D, DT, reduceIte, reduceCtorEq, Nat.reduceEqDiff, Nat.reduceAdd, Nat.reduceLT, Nat.reduceLeDiff, Nat.reduceBEq, Int.reduceLE, Int.reduceLT, Int.reduceEq, Int.reduceNeg, h1] <;> rfl) | rfl)) ?_
    · intro e_27 H_27 k4_18_27 k7_18_27
      simp only [D, DT, reduceIte, reduceCtorEq, Nat.reduceEqDiff, Nat.reduceAdd, Nat.reduceLT, Nat.reduceLeDiff, Nat.reduceBEq, Int.reduceLE, Int.reduceLT, Int.reduceEq, Int.reduceNeg, tag_In.a0, h1, k4_18_27, k7_18_27]
      try rfl
    · intro v19_4 e_28 H_28 g4_19_28 k4_19_28 k7_19_28
      simp only [D, DT, reduceIte, reduceCtorEq, Nat.reduceEqDiff, Nat.reduceAdd, Nat.reduceLT, Nat.reduceLeDiff, Nat.reduceBEq, Int.reduceLE, Int.reduceLT, Int.reduceEq, Int.reduceNeg, tag_In.a0, h1, g4_19_28, k4_19_28, k7_19_28]
      try rfl
    exact mb _ _ _
  · simp only [D, DT, reduceIte, reduceCtorEq, Nat.reduceEqDiff, Nat.reduceAdd, Nat.reduceLT, Nat.reduceLeDiff, Nat.reduceBEq, Int.reduceLE, Int.reduceLT, Int.reduceEq, Int.reduceNeg, h1]
    rw [call_in (fd := c17) rfl]
    simp only [D, DT, reduceIte, reduceCtorEq, Nat.reduceEqDiff, Nat.reduceAdd, Nat.reduceLT, Nat.reduceLeDiff, Nat.reduceBEq, Int.reduceLE, Int.reduceLT, Int.reduceEq, Int.reduceNeg, c17, h1]
    rw [call_in (fd := c21) rfl]
    simp only [D, DT, reduceIte, reduceCtorEq, Nat.reduceEqDiff, Nat.reduceAdd, Nat.reduceLT, Nat.reduceLeDiff, Nat.reduceBEq, Int.reduceLE, Int.reduceLT, Int.reduceEq, Int.reduceNeg, c21, h1]
    refine Eq.trans (tag_In.l1_ok (fun x => Option.map AV.bool (tag_In.a1 x)) a0 a1 ?_ ?_ 0 _ _ (by first | (simp only [D, DT, reduceIte, reduceCtorEq, Nat.reduceEqDiff, Nat.reduceAdd, Nat.reduceLT, Nat.reduceLeDiff, Nat.reduceBEq, Int.reduceLE, Int.reduceLT, Int.reduceEq, Int.reduceNeg, h1] <;> rfl) | rfl) (by first | (simp only [D, DT, reduceIte, reduceCtorEq, Nat.reduceEqDiff, Nat.reduceAdd, Nat.reduceLT, Nat.reduceLeDiff, Nat.reduceBEq, Int.reduceLE, Int.reduceLT, Int.reduceEq, Int.reduceNeg, h1] <;> rfl) | rfl) (by first | (simp only [D, DT, reduceIte, reduceCtorEq, Nat.reduceEqDiff, Nat.reduceAdd, Nat.reduceLT, Nat.reduceLeDiff, Nat.reduceBEq, Int.reduceLE, Int.reduceLT, Int.reduceEq, Int.reduceNeg, h1] <;> rfl) | rfl) (by first | (simp only [D, DT, reduceIte, reduceCtorEq, Nat.reduceEqDiff, Nat.reduceAdd, Nat.reduceLT, Nat.reduceLeDiff, Nat.reduceBEq, Int.reduceLE, Int.reduceLT, Int.reduceEq, Int.reduceNeg, h1] <;> rfl) | rfl) (by first | (simp only [D, DT, reduceIte, reduceCtorEq, Nat.reduceEqDiff, Nat.reduceAdd, Nat.reduceLT, Nat.reduceLeDiff, Nat.reduceBEq, Int.reduceLE, Int.reduceLT, Int.reduceEq, Int.reduceNeg, h1] <;> rfl) | rfl) (by first | (simp only [D, DT, reduceIte, reduceCtorEq, Nat.reduceEqDiff, Nat.reduceAdd, Nat.reduceLT, Nat.reduceLeDiff, Nat.reduceBEq, Int.reduceLE, Int.reduceLT, Int.reduceEq, Int.reduceNeg, h1] <;> rfl) | rfl)) ?_
    · intro e_54 H_54 k4_45_54 k7_45_54
      simp only [D, DT, reduceIte, reduceCtorEq, Nat.reduceEqDiff, Nat.reduceAdd, Nat.reduceLT, Nat.reduceLeDiff, Nat.reduceBEq, Int.reduceLE, Int.reduceLT, Int.reduceEq, Int.reduceNeg, tag_In.a1, h1, k4_45_54, k7_45_54]
      try rfl
    · intro v46_4 e_55 H_55 g4_46_55 k4_46_55 k7_46_55
      simp only [D, DT, reduceIte, reduceCtorEq, Nat.reduceEqDiff, Nat.reduceAdd, Nat.reduceLT, Nat.reduceLeDiff, Nat.reduceBEq, Int.reduceLE, Int.reduceLT, Int.reduceEq, Int.reduceNeg, tag_In.a1, h1, g4_46_55, k4_46_55, k7_46_55]
      try rfl
    exact mb _ _ _
noncomputable def date_right.f (a0 : Int) : Option Bool :=
  bif (decide ((0 : Int) ≤ a0)) then
    some (decide (a0 ≤ 253402300799))
  else
    some false
set_option maxHeartbeats 4000000 in
theorem date_right.ok (a0 : Int) : ansL X 22 [(.int .i64 a0)] = Option.map AV.bool (date_right.f a0) := by
  rw [ansL_run (fd := c22) rfl rfl]
  simp only [D, DT, reduceIte, reduceCtorEq, Nat.reduceEqDiff, Nat.reduceAdd, Nat.reduceLT, Nat.reduceLeDiff, Nat.reduceBEq, Int.reduceLE, Int.reduceLT, Int.reduceEq, Int.reduceNeg, c22, date_right.f]
  cases h1 : (decide ((0 : Int) ≤ a0))
  · simp only [D, DT, reduceIte, reduceCtorEq, Nat.reduceEqDiff, Nat.reduceAdd, Nat.reduceLT, Nat.reduceLeDiff, Nat.reduceBEq, Int.reduceLE, Int.reduceLT, Int.reduceEq, Int.reduceNeg, h1]
    try rfl
  · simp only [D, DT, reduceIte, reduceCtorEq, Nat.reduceEqDiff, Nat.reduceAdd, Nat.reduceLT, Nat.reduceLeDiff, Nat.reduceBEq, Int.reduceLE, Int.reduceLT, Int.reduceEq, Int.reduceNeg, h1]
    try rfl
noncomputable def cond_failed.f (a0 : api_Cond) (a1 : api_Meta) (a2 : Bool) : Option Bool :=
  bif a0.AnyMatch then
    bif a2 then
      some false
    else
      some true
  else
    bif (decide ((0 : Int) < (a0.Match.length : Int))) then
      bif a2 then
        (tag_In.f a0.Match (api_Tag.mk a1.Tag_Text a1.Tag_Weak) true).bind fun x9 =>
        some (!x9)
      else
        some true
    else
      bif (decide ((0 : Int) ≤ a0.Unless)) then
        bif a2 then
          bif (decide ((0 : Int) ≤ a1.Modified)) then
            some (decide (a0.Unless < a1.Modified))
          else
            some false
        else
          some false
      else
        some false
set_option maxHeartbeats 4000000 in
theorem cond_failed.ok (a0 : api_Cond) (a1 : api_Meta) (a2 : Bool) : ansL X 9 [(.agg [(.sl (encL api_Tag.enc a0.Match)), (.sl (encL api_Tag.enc a0.None)), (.bool a0.AnyMatch), (.bool a0.AnyNone), (.int .i64 a0.Since), (.int .i64 a0.Unless), (.str a0.Range_Text), (.bool a0.Range_Weak)]), (.agg [(.str a1.Tag_Text), (.bool a1.Tag_Weak), (.int .i64 a1.Modified), (.int .i64 a1.Length), (.int .i64 a1.Have), (.int .i64 a1.Fresh), (.int .i64 a1.While), (.int .i64 a1.Error), (.sl (encL AV.str a1.Keys)), (.str a1.Tenant), (.bool a1.Keep)]), (.bool a2)] = Option.map AV.bool (cond_failed.f a0 a1 a2) := by
  rw [ansL_run (fd := c9) rfl rfl]
  simp only [D, DT, reduceIte, reduceCtorEq, Nat.reduceEqDiff, Nat.reduceAdd, Nat.reduceLT, Nat.reduceLeDiff, Nat.reduceBEq, Int.reduceLE, Int.reduceLT, Int.reduceEq, Int.reduceNeg, c9, cond_failed.f]
  cases h1 : a0.AnyMatch
  · simp only [D, DT, reduceIte, reduceCtorEq, Nat.reduceEqDiff, Nat.reduceAdd, Nat.reduceLT, Nat.reduceLeDiff, Nat.reduceBEq, Int.reduceLE, Int.reduceLT, Int.reduceEq, Int.reduceNeg, h1]
    cases h2 : (decide ((0 : Int) < (a0.Match.length : Int)))
    · simp only [D, DT, reduceIte, reduceCtorEq, Nat.reduceEqDiff, Nat.reduceAdd, Nat.reduceLT, Nat.reduceLeDiff, Nat.reduceBEq, Int.reduceLE, Int.reduceLT, Int.reduceEq, Int.reduceNeg, h1, h2]
      cases h3 : (decide ((0 : Int) ≤ a0.Unless))
      · simp only [D, DT, reduceIte, reduceCtorEq, Nat.reduceEqDiff, Nat.reduceAdd, Nat.reduceLT, Nat.reduceLeDiff, Nat.reduceBEq, Int.reduceLE, Int.reduceLT, Int.reduceEq, Int.reduceNeg, h1, h2, h3]
        try rfl
      · simp only [D, DT, reduceIte, reduceCtorEq, Nat.reduceEqDiff, Nat.reduceAdd, Nat.reduceLT, Nat.reduceLeDiff, Nat.reduceBEq, Int.reduceLE, Int.reduceLT, Int.reduceEq, Int.reduceNeg, h1, h2, h3]
        cases h4 : a2
        · simp only [D, DT, reduceIte, reduceCtorEq, Nat.reduceEqDiff, Nat.reduceAdd, Nat.reduceLT, Nat.reduceLeDiff, Nat.reduceBEq, Int.reduceLE, Int.reduceLT, Int.reduceEq, Int.reduceNeg, h1, h2, h3, h4]
          try rfl
        · simp only [D, DT, reduceIte, reduceCtorEq, Nat.reduceEqDiff, Nat.reduceAdd, Nat.reduceLT, Nat.reduceLeDiff, Nat.reduceBEq, Int.reduceLE, Int.reduceLT, Int.reduceEq, Int.reduceNeg, h1, h2, h3, h4]
          cases h5 : (decide ((0 : Int) ≤ a1.Modified))
          · simp only [D, DT, reduceIte, reduceCtorEq, Nat.reduceEqDiff, Nat.reduceAdd, Nat.reduceLT, Nat.reduceLeDiff, Nat.reduceBEq, Int.reduceLE, Int.reduceLT, Int.reduceEq, Int.reduceNeg, h1, h2, h3, h4, h5]
            try rfl
          · simp only [D, DT, reduceIte, reduceCtorEq, Nat.reduceEqDiff, Nat.reduceAdd, Nat.reduceLT, Nat.reduceLeDiff, Nat.reduceBEq, Int.reduceLE, Int.reduceLT, Int.reduceEq, Int.reduceNeg, h1, h2, h3, h4, h5]
            try rfl
    · simp only [D, DT, reduceIte, reduceCtorEq, Nat.reduceEqDiff, Nat.reduceAdd, Nat.reduceLT, Nat.reduceLeDiff, Nat.reduceBEq, Int.reduceLE, Int.reduceLT, Int.reduceEq, Int.reduceNeg, h1, h2]
      cases h6 : a2
      · simp only [D, DT, reduceIte, reduceCtorEq, Nat.reduceEqDiff, Nat.reduceAdd, Nat.reduceLT, Nat.reduceLeDiff, Nat.reduceBEq, Int.reduceLE, Int.reduceLT, Int.reduceEq, Int.reduceNeg, h1, h2, h6]
        try rfl
      · simp only [D, DT, reduceIte, reduceCtorEq, Nat.reduceEqDiff, Nat.reduceAdd, Nat.reduceLT, Nat.reduceLeDiff, Nat.reduceBEq, Int.reduceLE, Int.reduceLT, Int.reduceEq, Int.reduceNeg, h1, h2, h6]
        have c7 : ansL X 15 [(.sl (encL api_Tag.enc a0.Match)), (.agg [(.str a1.Tag_Text), (.bool a1.Tag_Weak)]), (.bool true)] = Option.map AV.bool (tag_In.f a0.Match (api_Tag.mk a1.Tag_Text a1.Tag_Weak) true) := tag_In.ok a0.Match (api_Tag.mk a1.Tag_Text a1.Tag_Weak) true
        rcases h8 : tag_In.f a0.Match (api_Tag.mk a1.Tag_Text a1.Tag_Weak) true with _ | x9
        · simp only [D, DT, reduceIte, reduceCtorEq, Nat.reduceEqDiff, Nat.reduceAdd, Nat.reduceLT, Nat.reduceLeDiff, Nat.reduceBEq, Int.reduceLE, Int.reduceLT, Int.reduceEq, Int.reduceNeg, h1, h2, h6, c7, h8]
        · simp only [D, DT, reduceIte, reduceCtorEq, Nat.reduceEqDiff, Nat.reduceAdd, Nat.reduceLT, Nat.reduceLeDiff, Nat.reduceBEq, Int.reduceLE, Int.reduceLT, Int.reduceEq, Int.reduceNeg, h1, h2, h6, c7, h8]
          try rfl
  · simp only [D, DT, reduceIte, reduceCtorEq, Nat.reduceEqDiff, Nat.reduceAdd, Nat.reduceLT, Nat.reduceLeDiff, Nat.reduceBEq, Int.reduceLE, Int.reduceLT, Int.reduceEq, Int.reduceNeg, h1]
    cases h10 : a2
    · simp only [D, DT, reduceIte, reduceCtorEq, Nat.reduceEqDiff, Nat.reduceAdd, Nat.reduceLT, Nat.reduceLeDiff, Nat.reduceBEq, Int.reduceLE, Int.reduceLT, Int.reduceEq, Int.reduceNeg, h1, h10]
      try rfl
    · simp only [D, DT, reduceIte, reduceCtorEq, Nat.reduceEqDiff, Nat.reduceAdd, Nat.reduceLT, Nat.reduceLeDiff, Nat.reduceBEq, Int.reduceLE, Int.reduceLT, Int.reduceEq, Int.reduceNeg, h1, h10]
      try rfl
noncomputable def cond_same.f (a0 : api_Cond) (a1 : api_Meta) : Option Bool :=
  bif a0.AnyNone then
    some true
  else
    bif (decide ((0 : Int) < (a0.None.length : Int))) then
      (tag_In.f a0.None (api_Tag.mk a1.Tag_Text a1.Tag_Weak) false).bind fun x8 =>
      some x8
    else
      bif (decide ((0 : Int) ≤ a0.Since)) then
        bif (decide (a1.Length = (-1))) then
          some false
        else
          bif (decide ((0 : Int) ≤ a1.Modified)) then
            some (decide (a1.Modified ≤ a0.Since))
          else
            some false
      else
        some false
set_option maxHeartbeats 4000000 in
theorem cond_same.ok (a0 : api_Cond) (a1 : api_Meta) : ansL X 10 [(.agg [(.sl (encL api_Tag.enc a0.Match)), (.sl (encL api_Tag.enc a0.None)), (.bool a0.AnyMatch), (.bool a0.AnyNone), (.int .i64 a0.Since), (.int .i64 a0.Unless), (.str a0.Range_Text), (.bool a0.Range_Weak)]), (.agg [(.str a1.Tag_Text), (.bool a1.Tag_Weak), (.int .i64 a1.Modified), (.int .i64 a1.Length), (.int .i64 a1.Have), (.int .i64 a1.Fresh), (.int .i64 a1.While), (.int .i64 a1.Error), (.sl (encL AV.str a1.Keys)), (.str a1.Tenant), (.bool a1.Keep)])] = Option.map AV.bool (cond_same.f a0 a1) := by
  rw [ansL_run (fd := c10) rfl rfl]
  simp only [D, DT, reduceIte, reduceCtorEq, Nat.reduceEqDiff, Nat.reduceAdd, Nat.reduceLT, Nat.reduceLeDiff, Nat.reduceBEq, Int.reduceLE, Int.reduceLT, Int.reduceEq, Int.reduceNeg, c10, cond_same.f]
  cases h1 : a0.AnyNone
  · simp only [D, DT, reduceIte, reduceCtorEq, Nat.reduceEqDiff, Nat.reduceAdd, Nat.reduceLT, Nat.reduceLeDiff, Nat.reduceBEq, Int.reduceLE, Int.reduceLT, Int.reduceEq, Int.reduceNeg, h1]
    cases h2 : (decide ((0 : Int) < (a0.None.length : Int)))
    · simp only [D, DT, reduceIte, reduceCtorEq, Nat.reduceEqDiff, Nat.reduceAdd, Nat.reduceLT, Nat.reduceLeDiff, Nat.reduceBEq, Int.reduceLE, Int.reduceLT, Int.reduceEq, Int.reduceNeg, h1, h2]
      cases h3 : (decide ((0 : Int) ≤ a0.Since))
      · simp only [D, DT, reduceIte, reduceCtorEq, Nat.reduceEqDiff, Nat.reduceAdd, Nat.reduceLT, Nat.reduceLeDiff, Nat.reduceBEq, Int.reduceLE, Int.reduceLT, Int.reduceEq, Int.reduceNeg, h1, h2, h3]
        try rfl
      · simp only [D, DT, reduceIte, reduceCtorEq, Nat.reduceEqDiff, Nat.reduceAdd, Nat.reduceLT, Nat.reduceLeDiff, Nat.reduceBEq, Int.reduceLE, Int.reduceLT, Int.reduceEq, Int.reduceNeg, h1, h2, h3]
        cases h4 : (decide (a1.Length = (-1)))
        · simp only [D, DT, reduceIte, reduceCtorEq, Nat.reduceEqDiff, Nat.reduceAdd, Nat.reduceLT, Nat.reduceLeDiff, Nat.reduceBEq, Int.reduceLE, Int.reduceLT, Int.reduceEq, Int.reduceNeg, h1, h2, h3, h4]
          cases h5 : (decide ((0 : Int) ≤ a1.Modified))
          · simp only [D, DT, reduceIte, reduceCtorEq, Nat.reduceEqDiff, Nat.reduceAdd, Nat.reduceLT, Nat.reduceLeDiff, Nat.reduceBEq, Int.reduceLE, Int.reduceLT, Int.reduceEq, Int.reduceNeg, h1, h2, h3, h4, h5]
            try rfl
          · simp only [D, DT, reduceIte, reduceCtorEq, Nat.reduceEqDiff, Nat.reduceAdd, Nat.reduceLT, Nat.reduceLeDiff, Nat.reduceBEq, Int.reduceLE, Int.reduceLT, Int.reduceEq, Int.reduceNeg, h1, h2, h3, h4, h5]
            try rfl
        · simp only [D, DT, reduceIte, reduceCtorEq, Nat.reduceEqDiff, Nat.reduceAdd, Nat.reduceLT, Nat.reduceLeDiff, Nat.reduceBEq, Int.reduceLE, Int.reduceLT, Int.reduceEq, Int.reduceNeg, h1, h2, h3, h4]
          try rfl
    · simp only [D, DT, reduceIte, reduceCtorEq, Nat.reduceEqDiff, Nat.reduceAdd, Nat.reduceLT, Nat.reduceLeDiff, Nat.reduceBEq, Int.reduceLE, Int.reduceLT, Int.reduceEq, Int.reduceNeg, h1, h2]
      have c6 : ansL X 15 [(.sl (encL api_Tag.enc a0.None)), (.agg [(.str a1.Tag_Text), (.bool a1.Tag_Weak)]), (.bool false)] = Option.map AV.bool (tag_In.f a0.None (api_Tag.mk a1.Tag_Text a1.Tag_Weak) false) := tag_In.ok a0.None (api_Tag.mk a1.Tag_Text a1.Tag_Weak) false
      rcases h7 : tag_In.f a0.None (api_Tag.mk a1.Tag_Text a1.Tag_Weak) false with _ | x8
      · simp only [D, DT, reduceIte, reduceCtorEq, Nat.reduceEqDiff, Nat.reduceAdd, Nat.reduceLT, Nat.reduceLeDiff, Nat.reduceBEq, Int.reduceLE, Int.reduceLT, Int.reduceEq, Int.reduceNeg, h1, h2, c6, h7]
      · simp only [D, DT, reduceIte, reduceCtorEq, Nat.reduceEqDiff, Nat.reduceAdd, Nat.reduceLT, Nat.reduceLeDiff, Nat.reduceBEq, Int.reduceLE, Int.reduceLT, Int.reduceEq, Int.reduceNeg, h1, h2, c6, h7]
        try rfl
  · simp only [D, DT, reduceIte, reduceCtorEq, Nat.reduceEqDiff, Nat.reduceAdd, Nat.reduceLT, Nat.reduceLeDiff, Nat.reduceBEq, Int.reduceLE, Int.reduceLT, Int.reduceEq, Int.reduceNeg, h1]
    try rfl
noncomputable def cond_Check.f (a0 : api_Request) (a1 : api_Meta) (a2 : Bool) : Option Int :=
  (cond_failed.f (api_Cond.mk a0.Cond_Match a0.Cond_None a0.Cond_AnyMatch a0.Cond_AnyNone a0.Cond_Since a0.Cond_Unless a0.Cond_Range_Text a0.Cond_Range_Weak) a1 a2).bind fun x3 =>
  bif x3 then
    some 4
  else
    bif a2 then
      (cond_same.f (api_Cond.mk a0.Cond_Match a0.Cond_None a0.Cond_AnyMatch a0.Cond_AnyNone a0.Cond_Since a0.Cond_Unless a0.Cond_Range_Text a0.Cond_Range_Weak) a1).bind fun x8 =>
      bif x8 then
        some 3
      else
        bif (decide ((0 : Int) < (a0.Specs.length : Int))) then
          bif ((a0.Cond_Range_Text == []) && (!a0.Cond_Range_Weak)) then
            some 1
          else
            (tag_Strong.f (api_Tag.mk a1.Tag_Text a1.Tag_Weak) (api_Tag.mk a0.Cond_Range_Text a0.Cond_Range_Weak)).bind fun x14 =>
            bif x14 then
              some 1
            else
              some 2
        else
          some 1
    else
      some 1
set_option maxHeartbeats 4000000 in
theorem cond_Check.ok (a0 : api_Request) (a1 : api_Meta) (a2 : Bool) : ansL X 6 [(.agg [(.bool a0.Head), (.str a0.Object), (.sl (encL api_Spec.enc a0.Specs)), (.sl (encL api_Tag.enc a0.Cond_Match)), (.sl (encL api_Tag.enc a0.Cond_None)), (.bool a0.Cond_AnyMatch), (.bool a0.Cond_AnyNone), (.int .i64 a0.Cond_Since), (.int .i64 a0.Cond_Unless), (.str a0.Cond_Range_Text), (.bool a0.Cond_Range_Weak)]), (.agg [(.str a1.Tag_Text), (.bool a1.Tag_Weak), (.int .i64 a1.Modified), (.int .i64 a1.Length), (.int .i64 a1.Have), (.int .i64 a1.Fresh), (.int .i64 a1.While), (.int .i64 a1.Error), (.sl (encL AV.str a1.Keys)), (.str a1.Tenant), (.bool a1.Keep)]), (.bool a2)] = Option.map (AV.int .i64) (cond_Check.f a0 a1 a2) := by
  rw [ansL_run (fd := c6) rfl rfl]
  simp only [D, DT, reduceIte, reduceCtorEq, Nat.reduceEqDiff, Nat.reduceAdd, Nat.reduceLT, Nat.reduceLeDiff, Nat.reduceBEq, Int.reduceLE, Int.reduceLT, Int.reduceEq, Int.reduceNeg, c6, cond_Check.f]
  have c1 : ansL X 9 [(.agg [(.sl (encL api_Tag.enc a0.Cond_Match)), (.sl (encL api_Tag.enc a0.Cond_None)), (.bool a0.Cond_AnyMatch), (.bool a0.Cond_AnyNone), (.int .i64 a0.Cond_Since), (.int .i64 a0.Cond_Unless), (.str a0.Cond_Range_Text), (.bool a0.Cond_Range_Weak)]), (.agg [(.str a1.Tag_Text), (.bool a1.Tag_Weak), (.int .i64 a1.Modified), (.int .i64 a1.Length), (.int .i64 a1.Have), (.int .i64 a1.Fresh), (.int .i64 a1.While), (.int .i64 a1.Error), (.sl (encL AV.str a1.Keys)), (.str a1.Tenant), (.bool a1.Keep)]), (.bool a2)] = Option.map AV.bool (cond_failed.f (api_Cond.mk a0.Cond_Match a0.Cond_None a0.Cond_AnyMatch a0.Cond_AnyNone a0.Cond_Since a0.Cond_Unless a0.Cond_Range_Text a0.Cond_Range_Weak) a1 a2) := cond_failed.ok (api_Cond.mk a0.Cond_Match a0.Cond_None a0.Cond_AnyMatch a0.Cond_AnyNone a0.Cond_Since a0.Cond_Unless a0.Cond_Range_Text a0.Cond_Range_Weak) a1 a2
  rcases h2 : cond_failed.f (api_Cond.mk a0.Cond_Match a0.Cond_None a0.Cond_AnyMatch a0.Cond_AnyNone a0.Cond_Since a0.Cond_Unless a0.Cond_Range_Text a0.Cond_Range_Weak) a1 a2 with _ | x3
  · simp only [D, DT, reduceIte, reduceCtorEq, Nat.reduceEqDiff, Nat.reduceAdd, Nat.reduceLT, Nat.reduceLeDiff, Nat.reduceBEq, Int.reduceLE, Int.reduceLT, Int.reduceEq, Int.reduceNeg, c1, h2]
  · simp only [D, DT, reduceIte, reduceCtorEq, Nat.reduceEqDiff, Nat.reduceAdd, Nat.reduceLT, Nat.reduceLeDiff, Nat.reduceBEq, Int.reduceLE, Int.reduceLT, Int.reduceEq, Int.reduceNeg, c1, h2]
    cases h4 : x3
    · simp only [D, DT, reduceIte, reduceCtorEq, Nat.reduceEqDiff, Nat.reduceAdd, Nat.reduceLT, Nat.reduceLeDiff, Nat.reduceBEq, Int.reduceLE, Int.reduceLT, Int.reduceEq, Int.reduceNeg, c1, h2, h4]
      cases h5 : a2
      · simp only [D, DT, reduceIte, reduceCtorEq, Nat.reduceEqDiff, Nat.reduceAdd, Nat.reduceLT, Nat.reduceLeDiff, Nat.reduceBEq, Int.reduceLE, Int.reduceLT, Int.reduceEq, Int.reduceNeg, c1, h2, h4, h5]
        try rfl
      · simp only [D, DT, reduceIte, reduceCtorEq, Nat.reduceEqDiff, Nat.reduceAdd, Nat.reduceLT, Nat.reduceLeDiff, Nat.reduceBEq, Int.reduceLE, Int.reduceLT, Int.reduceEq, Int.reduceNeg, c1, h2, h4, h5]
        have c6 : ansL X 10 [(.agg [(.sl (encL api_Tag.enc a0.Cond_Match)), (.sl (encL api_Tag.enc a0.Cond_None)), (.bool a0.Cond_AnyMatch), (.bool a0.Cond_AnyNone), (.int .i64 a0.Cond_Since), (.int .i64 a0.Cond_Unless), (.str a0.Cond_Range_Text), (.bool a0.Cond_Range_Weak)]), (.agg [(.str a1.Tag_Text), (.bool a1.Tag_Weak), (.int .i64 a1.Modified), (.int .i64 a1.Length), (.int .i64 a1.Have), (.int .i64 a1.Fresh), (.int .i64 a1.While), (.int .i64 a1.Error), (.sl (encL AV.str a1.Keys)), (.str a1.Tenant), (.bool a1.Keep)])] = Option.map AV.bool (cond_same.f (api_Cond.mk a0.Cond_Match a0.Cond_None a0.Cond_AnyMatch a0.Cond_AnyNone a0.Cond_Since a0.Cond_Unless a0.Cond_Range_Text a0.Cond_Range_Weak) a1) := cond_same.ok (api_Cond.mk a0.Cond_Match a0.Cond_None a0.Cond_AnyMatch a0.Cond_AnyNone a0.Cond_Since a0.Cond_Unless a0.Cond_Range_Text a0.Cond_Range_Weak) a1
        rcases h7 : cond_same.f (api_Cond.mk a0.Cond_Match a0.Cond_None a0.Cond_AnyMatch a0.Cond_AnyNone a0.Cond_Since a0.Cond_Unless a0.Cond_Range_Text a0.Cond_Range_Weak) a1 with _ | x8
        · simp only [D, DT, reduceIte, reduceCtorEq, Nat.reduceEqDiff, Nat.reduceAdd, Nat.reduceLT, Nat.reduceLeDiff, Nat.reduceBEq, Int.reduceLE, Int.reduceLT, Int.reduceEq, Int.reduceNeg, c1, h2, h4, h5, c6, h7]
        · simp only [D, DT, reduceIte, reduceCtorEq, Nat.reduceEqDiff, Nat.reduceAdd, Nat.reduceLT, Nat.reduceLeDiff, Nat.reduceBEq, Int.reduceLE, Int.reduceLT, Int.reduceEq, Int.reduceNeg, c1, h2, h4, h5, c6, h7]
          cases h9 : x8
          · simp only [D, DT, reduceIte, reduceCtorEq, Nat.reduceEqDiff, Nat.reduceAdd, Nat.reduceLT, Nat.reduceLeDiff, Nat.reduceBEq, Int.reduceLE, Int.reduceLT, Int.reduceEq, Int.reduceNeg, c1, h2, h4, h5, c6, h7, h9]
            cases h10 : (decide ((0 : Int) < (a0.Specs.length : Int)))
            · simp only [D, DT, reduceIte, reduceCtorEq, Nat.reduceEqDiff, Nat.reduceAdd, Nat.reduceLT, Nat.reduceLeDiff, Nat.reduceBEq, Int.reduceLE, Int.reduceLT, Int.reduceEq, Int.reduceNeg, c1, h2, h4, h5, c6, h7, h9, h10]
              try rfl
            · simp only [D, DT, reduceIte, reduceCtorEq, Nat.reduceEqDiff, Nat.reduceAdd, Nat.reduceLT, Nat.reduceLeDiff, Nat.reduceBEq, Int.reduceLE, Int.reduceLT, Int.reduceEq, Int.reduceNeg, c1, h2, h4, h5, c6, h7, h9, h10]
              cases h11 : ((a0.Cond_Range_Text == []) && (!a0.Cond_Range_Weak))
              · simp only [D, DT, reduceIte, reduceCtorEq, Nat.reduceEqDiff, Nat.reduceAdd, Nat.reduceLT, Nat.reduceLeDiff, Nat.reduceBEq, Int.reduceLE, Int.reduceLT, Int.reduceEq, Int.reduceNeg, c1, h2, h4, h5, c6, h7, h9, h10, h11]
                have c12 : ansL X 11 [(.agg [(.str a1.Tag_Text), (.bool a1.Tag_Weak)]), (.agg [(.str a0.Cond_Range_Text), (.bool a0.Cond_Range_Weak)])] = Option.map AV.bool (tag_Strong.f (api_Tag.mk a1.Tag_Text a1.Tag_Weak) (api_Tag.mk a0.Cond_Range_Text a0.Cond_Range_Weak)) := tag_Strong.ok (api_Tag.mk a1.Tag_Text a1.Tag_Weak) (api_Tag.mk a0.Cond_Range_Text a0.Cond_Range_Weak)
                rcases h13 : tag_Strong.f (api_Tag.mk a1.Tag_Text a1.Tag_Weak) (api_Tag.mk a0.Cond_Range_Text a0.Cond_Range_Weak) with _ | x14
                · simp only [D, DT, reduceIte, reduceCtorEq, Nat.reduceEqDiff, Nat.reduceAdd, Nat.reduceLT, Nat.reduceLeDiff, Nat.reduceBEq, Int.reduceLE, Int.reduceLT, Int.reduceEq, Int.reduceNeg, c1, h2, h4, h5, c6, h7, h9, h10, h11, c12, h13]
                · simp only [D, DT, reduceIte, reduceCtorEq, Nat.reduceEqDiff, Nat.reduceAdd, Nat.reduceLT, Nat.reduceLeDiff, Nat.reduceBEq, Int.reduceLE, Int.reduceLT, Int.reduceEq, Int.reduceNeg, c1, h2, h4, h5, c6, h7, h9, h10, h11, c12, h13]
                  cases h15 : x14
                  · simp only [D, DT, reduceIte, reduceCtorEq, Nat.reduceEqDiff, Nat.reduceAdd, Nat.reduceLT, Nat.reduceLeDiff, Nat.reduceBEq, Int.reduceLE, Int.reduceLT, Int.reduceEq, Int.reduceNeg, c1, h2, h4, h5, c6, h7, h9, h10, h11, c12, h13, h15]
                    try rfl
                  · simp only [D, DT, reduceIte, reduceCtorEq, Nat.reduceEqDiff, Nat.reduceAdd, Nat.reduceLT, Nat.reduceLeDiff, Nat.reduceBEq, Int.reduceLE, Int.reduceLT, Int.reduceEq, Int.reduceNeg, c1, h2, h4, h5, c6, h7, h9, h10, h11, c12, h13, h15]
                    try rfl
              · simp only [D, DT, reduceIte, reduceCtorEq, Nat.reduceEqDiff, Nat.reduceAdd, Nat.reduceLT, Nat.reduceLeDiff, Nat.reduceBEq, Int.reduceLE, Int.reduceLT, Int.reduceEq, Int.reduceNeg, c1, h2, h4, h5, c6, h7, h9, h10, h11]
                try rfl
          · simp only [D, DT, reduceIte, reduceCtorEq, Nat.reduceEqDiff, Nat.reduceAdd, Nat.reduceLT, Nat.reduceLeDiff, Nat.reduceBEq, Int.reduceLE, Int.reduceLT, Int.reduceEq, Int.reduceNeg, c1, h2, h4, h5, c6, h7, h9]
            try rfl
    · simp only [D, DT, reduceIte, reduceCtorEq, Nat.reduceEqDiff, Nat.reduceAdd, Nat.reduceLT, Nat.reduceLeDiff, Nat.reduceBEq, Int.reduceLE, Int.reduceLT, Int.reduceEq, Int.reduceNeg, c1, h2, h4]
      try rfl
inductive mandolineref08_Few.l0X where
  | x0 (v40_3 : Int)
  | ret
inductive mandolineref08_Few.l1X where
  | x2 (v57_3 : Int)
  | ret
noncomputable def mandolineref08_Few.l1B (x44 : (List api_Tag)) (v52_3 : Int) (v52_27 : Int) : Option (Step (Int × Int) mandolineref08_Few.l1X) :=
  bif (decide (v52_27 < (x44.length : Int))) then
    (idx x44 v52_27).bind fun x61 =>
    bif (decide ((400 : Int) < (x61.Text.length : Int))) then
      some (.done (.ret))
    else
      some (.next ((IntKind.i64.wrap (v52_3 + (x61.Text.length : Int))), (IntKind.i64.wrap (v52_27 + 1))))
  else
    some (.done (.x2 v52_3))
set_option maxHeartbeats 4000000 in
theorem mandolineref08_Few.l1_ok {α : Type} {F : Env → Heap → Option α} {K : List Fr} (fin : mandolineref08_Few.l1X → Option α) (v20_18 : Int) (x44 : (List api_Tag)) (a0 : api_Cond)
    (hx2 : ∀ (v57_3 : Int) (e : Env) (H : Heap), e 3 = (.int .i64 v57_3) → e 16 = (.own [16] 1 0 2) → e 17 = (.int .i64 2) → e 18 = (.int .i64 v20_18) → H [16] = (1, some ⟨false, true, 1, encL encS_api_Tag ([a0.Match, a0.None] : List (List api_Tag))⟩) → outL X [] F K e H 2 = fin (.x2 v57_3))
    (hret : ∀ (e : Env) (H : Heap), e 2 = (.bool false) → F e H = fin (.ret)) (v52_3 : Int) (v52_27 : Int) (e : Env) (H : Heap) (g3_52 : e 3 = (.int .i64 v52_3)) (g16_52 : e 16 = (.own [16] 1 0 2)) (g17_52 : e 17 = (.int .i64 2)) (g18_52 : e 18 = (.int .i64 v20_18)) (g25_52 : e 25 = (.sl (encL api_Tag.enc x44))) (g26_52 : e 26 = (.int .i64 (x44.length : Int))) (g27_52 : e 27 = (.int .i64 v52_27)) (k16_52 : H [16] = (1, some ⟨false, true, 1, encL encS_api_Tag ([a0.Match, a0.None] : List (List api_Tag))⟩)) :
    runL X [] F (.c (.loop c4_l0) :: K) e H = (loopL (fun (s : Int × Int) => mandolineref08_Few.l1B x44 s.1 s.2) (v52_3, v52_27)).bind fin := by
  refine loop_of (R := fun (s : Int × Int) (e : Env) (H : Heap) => (fun (v52_3 : Int) (v52_27 : Int) => e 3 = (.int .i64 v52_3) ∧ e 16 = (.own [16] 1 0 2) ∧ e 17 = (.int .i64 2) ∧ e 18 = (.int .i64 v20_18) ∧ e 25 = (.sl (encL api_Tag.enc x44)) ∧ e 26 = (.int .i64 (x44.length : Int)) ∧ e 27 = (.int .i64 v52_27) ∧ H [16] = (1, some ⟨false, true, 1, encL encS_api_Tag ([a0.Match, a0.None] : List (List api_Tag))⟩)) s.1 s.2) fin ?_ ⟨g3_52, g16_52, g17_52, g18_52, g25_52, g26_52, g27_52, k16_52⟩
  clear k16_52 g27_52 g26_52 g25_52 g18_52 g17_52 g16_52 g3_52 e H v52_27 v52_3
  intro n G hn hd s e H hR
  obtain ⟨v52_3, v52_27⟩ := s
  obtain ⟨g3_52, g16_52, g17_52, g18_52, g25_52, g26_52, g27_52, k16_52⟩ := hR
  simp only [D, DT, reduceIte, reduceCtorEq, Nat.reduceEqDiff, Nat.reduceAdd, Nat.reduceLT, Nat.reduceLeDiff, Nat.reduceBEq, Int.reduceLE, Int.reduceLT, Int.reduceEq, Int.reduceNeg, mandolineref08_Few.l1B, g3_52, g16_52, g17_52, g18_52, g25_52, g26_52, g27_52, k16_52, c4_l0]
  cases h59 : (decide (v52_27 < (x44.length : Int)))
  · simp only [D, DT, reduceIte, reduceCtorEq, Nat.reduceEqDiff, Nat.reduceAdd, Nat.reduceLT, Nat.reduceLeDiff, Nat.reduceBEq, Int.reduceLE, Int.reduceLT, Int.reduceEq, Int.reduceNeg, g3_52, g16_52, g17_52, g18_52, g25_52, g26_52, g27_52, k16_52, c4_l0, h59]
    exact (hx2 v52_3 _ _ (by first | (simp only [D, DT, reduceIte, reduceCtorEq, Nat.reduceEqDiff, Nat.reduceAdd, Nat.reduceLT, Nat.reduceLeDiff, Nat.reduceBEq, Int.reduceLE, Int.reduceLT, Int.reduceEq, Int.reduceNeg, g3_52, g16_52, g17_52, g18_52, g25_52, g26_52, g27_52, k16_52, c4_l0, h59] <;> rfl) | rfl) (by first | (simp only [D, DT, reduceIte, reduceCtorEq, Nat.reduceEqDiff, Nat.reduceAdd, Nat.reduceLT, Nat.reduceLeDiff, Nat.reduceBEq, Int.reduceLE, Int.reduceLT, Int.reduceEq, Int.reduceNeg, g3_52, g16_52, g17_52, g18_52, g25_52, g26_52, g27_52, k16_52, c4_l0, h59] <;> rfl) | rfl) (by first | (simp only [D, DT, reduceIte, reduceCtorEq, Nat.reduceEqDiff, Nat.reduceAdd, Nat.reduceLT, Nat.reduceLeDiff, Nat.reduceBEq, Int.reduceLE, Int.reduceLT, Int.reduceEq, Int.reduceNeg, g3_52, g16_52, g17_52, g18_52, g25_52, g26_52, g27_52, k16_52, c4_l0, h59] <;> rfl) | rfl) (by first | (simp only [D, DT, reduceIte, reduceCtorEq, Nat.reduceEqDiff, Nat.reduceAdd, Nat.reduceLT, Nat.reduceLeDiff, Nat.reduceBEq, Int.reduceLE, Int.reduceLT, Int.reduceEq, Int.reduceNeg, g3_52, g16_52, g17_52, g18_52, g25_52, g26_52, g27_52, k16_52, c4_l0, h59] <;> rfl) | rfl) (by first | (simp only [D, DT, reduceIte, reduceCtorEq, Nat.reduceEqDiff, Nat.reduceAdd, Nat.reduceLT, Nat.reduceLeDiff, Nat.reduceBEq, Int.reduceLE, Int.reduceLT, Int.reduceEq, Int.reduceNeg, g3_52, g16_52, g17_52, g18_52, g25_52, g26_52, g27_52, k16_52, c4_l0, h59] <;> rfl) | rfl)).trans (hd _).symm
  · simp only [D, DT, reduceIte, reduceCtorEq, Nat.reduceEqDiff, Nat.reduceAdd, Nat.reduceLT, Nat.reduceLeDiff, Nat.reduceBEq, Int.reduceLE, Int.reduceLT, Int.reduceEq, Int.reduceNeg, g3_52, g16_52, g17_52, g18_52, g25_52, g26_52, g27_52, k16_52, c4_l0, h59]
    rcases h60 : idx x44 v52_27 with _ | x61
    · simp only [D, DT, reduceIte, reduceCtorEq, Nat.reduceEqDiff, Nat.reduceAdd, Nat.reduceLT, Nat.reduceLeDiff, Nat.reduceBEq, Int.reduceLE, Int.reduceLT, Int.reduceEq, Int.reduceNeg, g3_52, g16_52, g17_52, g18_52, g25_52, g26_52, g27_52, k16_52, c4_l0, h59, h60]
    · simp only [D, DT, reduceIte, reduceCtorEq, Nat.reduceEqDiff, Nat.reduceAdd, Nat.reduceLT, Nat.reduceLeDiff, Nat.reduceBEq, Int.reduceLE, Int.reduceLT, Int.reduceEq, Int.reduceNeg, g3_52, g16_52, g17_52, g18_52, g25_52, g26_52, g27_52, k16_52, c4_l0, h59, h60]
      cases h62 : (decide ((400 : Int) < (x61.Text.length : Int)))
      · simp only [D, DT, reduceIte, reduceCtorEq, Nat.reduceEqDiff, Nat.reduceAdd, Nat.reduceLT, Nat.reduceLeDiff, Nat.reduceBEq, Int.reduceLE, Int.reduceLT, Int.reduceEq, Int.reduceNeg, g3_52, g16_52, g17_52, g18_52, g25_52, g26_52, g27_52, k16_52, c4_l0, h59, h60, h62]
        exact hn _ _ _ ⟨(by first | (simp only [D, DT, reduceIte, reduceCtorEq, Nat.reduceEqDiff, Nat.reduceAdd, Nat.reduceLT, Nat.reduceLeDiff, Nat.reduceBEq, Int.reduceLE, Int.reduceLT, Int.reduceEq, Int.reduceNeg, g3_52, g16_52, g17_52, g18_52, g25_52, g26_52, g27_52, k16_52, c4_l0, h59, h60, h62] <;> rfl) | rfl), (by first | (simp only [D, DT, reduceIte, reduceCtorEq, Nat.reduceEqDiff, Nat.reduceAdd, Nat.reduceLT, Nat.reduceLeDiff, Nat.reduceBEq, Int.reduceLE, Int.reduceLT, Int.reduceEq, Int.reduceNeg, g3_52, g16_52, g17_52, g18_52, g25_52, g26_52, g27_52, k16_52, c4_l0, h59, h60, h62] <;> rfl) | rfl), (by first | (simp only [D, DT, reduceIte, reduceCtorEq, Nat.reduceEqDiff, Nat.reduceAdd, Nat.reduceLT, Nat.reduceLeDiff, Nat.reduceBEq, Int.reduceLE, Int.reduceLT, Int.reduceEq, Int.reduceNeg, g3_52, g16_52, g17_52, g18_52, g25_52, g26_52, g27_52, k16_52, c4_l0, h59, h60, h62] <;> rfl) | rfl), (by first | (simp only [D, DT, reduceIte, reduceCtorEq, Nat.reduceEqDiff, Nat.reduceAdd, Nat.reduceLT, Nat.reduceLeDiff, Nat.reduceBEq, Int.reduceLE, Int.reduceLT, Int.reduceEq, Int.reduceNeg, g3_52, g16_52, g17_52, g18_52, g25_52, g26_52, g27_52, k16_52, c4_l0, h59, h60, h62] <;> rfl) | rfl), (by first | (simp only [D, DT, reduceIte, reduceCtorEq, Nat.reduceEqDiff, Nat.reduceAdd, Nat.reduceLT, Nat.reduceLeDiff, Nat.reduceBEq, Int.reduceLE, Int.reduceLT, Int.reduceEq, Int.reduceNeg, g3_52, g16_52, g17_52, g18_52, g25_52, g26_52, g27_52, k16_52, c4_l0, h59, h60, h62] <;> rfl) | rfl), (by first | (simp only [D, DT, reduceIte, reduceCtorEq, Nat.reduceEqDiff, Nat.reduceAdd, Nat.reduceLT, Nat.reduceLeDiff, Nat.reduceBEq, Int.reduceLE, Int.reduceLT, Int.reduceEq, Int.reduceNeg, g3_52, g16_52, g17_52, g18_52, g25_52, g26_52, g27_52, k16_52, c4_l0, h59, h60, h62] <;> rfl) | rfl), (by first | (simp only [D, DT, reduceIte, reduceCtorEq, Nat.reduceEqDiff, Nat.reduceAdd, Nat.reduceLT, Nat.reduceLeDiff, Nat.reduceBEq, Int.reduceLE, Int.reduceLT, Int.reduceEq, Int.reduceNeg, g3_52, g16_52, g17_52, g18_52, g25_52, g26_52, g27_52, k16_52, c4_l0, h59, h60, h62] <;> rfl) | rfl), (by first | (simp only [D, DT, reduceIte, reduceCtorEq, Nat.reduceEqDiff, Nat.reduceAdd, Nat.reduceLT, Nat.reduceLeDiff, Nat.reduceBEq, Int.reduceLE, Int.reduceLT, Int.reduceEq, Int.reduceNeg, g3_52, g16_52, g17_52, g18_52, g25_52, g26_52, g27_52, k16_52, c4_l0, h59, h60, h62] <;> rfl) | rfl)⟩
      · simp only [D, DT, reduceIte, reduceCtorEq, Nat.reduceEqDiff, Nat.reduceAdd, Nat.reduceLT, Nat.reduceLeDiff, Nat.reduceBEq, Int.reduceLE, Int.reduceLT, Int.reduceEq, Int.reduceNeg, g3_52, g16_52, g17_52, g18_52, g25_52, g26_52, g27_52, k16_52, c4_l0, h59, h60, h62]
        exact (hret _ _ (by first | (simp only [D, DT, reduceIte, reduceCtorEq, Nat.reduceEqDiff, Nat.reduceAdd, Nat.reduceLT, Nat.reduceLeDiff, Nat.reduceBEq, Int.reduceLE, Int.reduceLT, Int.reduceEq, Int.reduceNeg, g3_52, g16_52, g17_52, g18_52, g25_52, g26_52, g27_52, k16_52, c4_l0, h59, h60, h62] <;> rfl) | rfl)).trans (hd _).symm
noncomputable def mandolineref08_Few.a1 (v20_18 : Int) : mandolineref08_Few.l1X → Option (Step (Int × Int) mandolineref08_Few.l0X)
  | .x2 v57_3 =>
    some (.next (v57_3, (IntKind.i64.wrap (v20_18 + 1))))
  | .ret =>
    some (.done (.ret))
noncomputable def mandolineref08_Few.l0B (a0 : api_Cond) (v20_3 : Int) (v20_18 : Int) : Option (Step (Int × Int) mandolineref08_Few.l0X) :=
  bif (decide (v20_18 < 2)) then
    (idx ([a0.Match, a0.None] : List (List api_Tag)) v20_18).bind fun x44 =>
    bif (decide ((40 : Int) < (x44.length : Int))) then
      some (.done (.ret))
    else
      (loopL (fun (s : Int × Int) => mandolineref08_Few.l1B x44 s.1 s.2) (v20_3, 0)).bind (mandolineref08_Few.a1 v20_18)
  else
    some (.done (.x0 v20_3))
set_option maxHeartbeats 4000000 in
theorem mandolineref08_Few.l0_ok {α : Type} {F : Env → Heap → Option α} {K : List Fr} (fin : mandolineref08_Few.l0X → Option α) (a0 : api_Cond)
    (hx0 : ∀ (v40_3 : Int) (e : Env) (H : Heap), e 3 = (.int .i64 v40_3) → outL X [] F K e H 0 = fin (.x0 v40_3))
    (hret : ∀ (e : Env) (H : Heap), e 2 = (.bool false) → F e H = fin (.ret)) (v20_3 : Int) (v20_18 : Int) (e : Env) (H : Heap) (g3_20 : e 3 = (.int .i64 v20_3)) (g16_20 : e 16 = (.own [16] 1 0 2)) (g17_20 : e 17 = (.int .i64 2)) (g18_20 : e 18 = (.int .i64 v20_18)) (k16_20 : H [16] = (1, some ⟨false, true, 1, encL encS_api_Tag ([a0.Match, a0.None] : List (List api_Tag))⟩)) :
    runL X [] F (.c (.loop c4_l1) :: K) e H = (loopL (fun (s : Int × Int) => mandolineref08_Few.l0B a0 s.1 s.2) (v20_3, v20_18)).bind fin := by
  refine loop_of (R := fun (s : Int × Int) (e : Env) (H : Heap) => (fun (v20_3 : Int) (v20_18 : Int) => e 3 = (.int .i64 v20_3) ∧ e 16 = (.own [16] 1 0 2) ∧ e 17 = (.int .i64 2) ∧ e 18 = (.int .i64 v20_18) ∧ H [16] = (1, some ⟨false, true, 1, encL encS_api_Tag ([a0.Match, a0.None] : List (List api_Tag))⟩)) s.1 s.2) fin ?_ ⟨g3_20, g16_20, g17_20, g18_20, k16_20⟩
  clear k16_20 g18_20 g17_20 g16_20 g3_20 e H v20_18 v20_3
  intro n G hn hd s e H hR
  obtain ⟨v20_3, v20_18⟩ := s
  obtain ⟨g3_20, g16_20, g17_20, g18_20, k16_20⟩ := hR
  simp only [D, DT, reduceIte, reduceCtorEq, Nat.reduceEqDiff, Nat.reduceAdd, Nat.reduceLT, Nat.reduceLeDiff, Nat.reduceBEq, Int.reduceLE, Int.reduceLT, Int.reduceEq, Int.reduceNeg, mandolineref08_Few.l0B, g3_20, g16_20, g17_20, g18_20, k16_20, c4_l1]
  cases h42 : (decide (v20_18 < 2))
  · simp only [D, DT, reduceIte, reduceCtorEq, Nat.reduceEqDiff, Nat.reduceAdd, Nat.reduceLT, Nat.reduceLeDiff, Nat.reduceBEq, Int.reduceLE, Int.reduceLT, Int.reduceEq, Int.reduceNeg, g3_20, g16_20, g17_20, g18_20, k16_20, c4_l1, h42]
    exact (hx0 v20_3 _ _ (by first | (simp only [D, DT, reduceIte, reduceCtorEq, Nat.reduceEqDiff, Nat.reduceAdd, Nat.reduceLT, Nat.reduceLeDiff, Nat.reduceBEq, Int.reduceLE, Int.reduceLT, Int.reduceEq, Int.reduceNeg, g3_20, g16_20, g17_20, g18_20, k16_20, c4_l1, h42] <;> rfl) | rfl)).trans (hd _).symm
  · simp only [D, DT, reduceIte, reduceCtorEq, Nat.reduceEqDiff, Nat.reduceAdd, Nat.reduceLT, Nat.reduceLeDiff, Nat.reduceBEq, Int.reduceLE, Int.reduceLT, Int.reduceEq, Int.reduceNeg, g3_20, g16_20, g17_20, g18_20, k16_20, c4_l1, h42]
    have o45 := fun (HH : Heap) (q : HH [16] = H [16]) => own_at (sz := 1) (f := encS_api_Tag) (out := ([a0.Match, a0.None] : List (List api_Tag))) (kk := .i64) (i := v20_18) (n := 2) (HH := HH) (H0 := H) (key := [16]) (ver := 1) (by first | (simp only [D, DT, reduceIte, reduceCtorEq, Nat.reduceEqDiff, Nat.reduceAdd, Nat.reduceLT, Nat.reduceLeDiff, Nat.reduceBEq, Int.reduceLE, Int.reduceLT, Int.reduceEq, Int.reduceNeg, g3_20, g16_20, g17_20, g18_20, k16_20, c4_l1, h42] <;> rfl) | rfl) q rfl
    rcases h43 : idx ([a0.Match, a0.None] : List (List api_Tag)) v20_18 with _ | x44
    · simp only [D, DT, reduceIte, reduceCtorEq, Nat.reduceEqDiff, Nat.reduceAdd, Nat.reduceLT, Nat.reduceLeDiff, Nat.reduceBEq, Int.reduceLE, Int.reduceLT, Int.reduceEq, Int.reduceNeg, g3_20, g16_20, g17_20, g18_20, k16_20, c4_l1, h42, h43, o45]
    · have hx44 := (idx_some h43).2.2
      simp only [D, DT, reduceIte, reduceCtorEq, Nat.reduceEqDiff, Nat.reduceAdd, Nat.reduceLT, Nat.reduceLeDiff, Nat.reduceBEq, Int.reduceLE, Int.reduceLT, Int.reduceEq, Int.reduceNeg, g3_20, g16_20, g17_20, g18_20, k16_20, c4_l1, h42, h43, o45, hx44]
      cases h46 : (decide ((40 : Int) < (x44.length : Int)))
      · simp only [D, DT, reduceIte, reduceCtorEq, Nat.reduceEqDiff, Nat.reduceAdd, Nat.reduceLT, Nat.reduceLeDiff, Nat.reduceBEq, Int.reduceLE, Int.reduceLT, Int.reduceEq, Int.reduceNeg, g3_20, g16_20, g17_20, g18_20, k16_20, c4_l1, h42, h43, o45, hx44, h46]
        refine Eq.trans (mandolineref08_Few.l1_ok (fun x => (mandolineref08_Few.a1 v20_18 x).bind G) v20_18 x44 a0 ?_ ?_ v20_3 0 _ _ (by first | (simp only [D, DT, reduceIte, reduceCtorEq, Nat.reduceEqDiff, Nat.reduceAdd, Nat.reduceLT, Nat.reduceLeDiff, Nat.reduceBEq, Int.reduceLE, Int.reduceLT, Int.reduceEq, Int.reduceNeg, g3_20, g16_20, g17_20, g18_20, k16_20, c4_l1, h42, h43, o45, hx44, h46] <;> rfl) | rfl) (by first | (simp only [D, DT, reduceIte, reduceCtorEq, Nat.reduceEqDiff, Nat.reduceAdd, Nat.reduceLT, Nat.reduceLeDiff, Nat.reduceBEq, Int.reduceLE, Int.reduceLT, Int.reduceEq, Int.reduceNeg, g3_20, g16_20, g17_20, g18_20, k16_20, c4_l1, h42, h43, o45, hx44, h46] <;> rfl) | rfl) (by first | (simp only [D, DT, reduceIte, reduceCtorEq, Nat.reduceEqDiff, Nat.reduceAdd, Nat.reduceLT, Nat.reduceLeDiff, Nat.reduceBEq, Int.reduceLE, Int.reduceLT, Int.reduceEq, Int.reduceNeg, g3_20, g16_20, g17_20, g18_20, k16_20, c4_l1, h42, h43, o45, hx44, h46] <;> rfl) | rfl) (by first | (simp only [D, DT, reduceIte, reduceCtorEq, Nat.reduceEqDiff, Nat.reduceAdd, Nat.reduceLT, Nat.reduceLeDiff, Nat.reduceBEq, Int.reduceLE, Int.reduceLT, Int.reduceEq, Int.reduceNeg, g3_20, g16_20, g17_20, g18_20, k16_20, c4_l1, h42, h43, o45, hx44, h46] <;> rfl) | rfl) (by first | (simp only [D, DT, reduceIte, reduceCtorEq, Nat.reduceEqDiff, Nat.reduceAdd, Nat.reduceLT, Nat.reduceLeDiff, Nat.reduceBEq, Int.reduceLE, Int.reduceLT, Int.reduceEq, Int.reduceNeg, g3_20, g16_20, g17_20, g18_20, k16_20, c4_l1, h42, h43, o45, hx44, h46] <;> rfl) | rfl) (by first | (simp only [D, DT, reduceIte, reduceCtorEq, Nat.reduceEqDiff, Nat.reduceAdd, Nat.reduceLT, Nat.reduceLeDiff, Nat.reduceBEq, Int.reduceLE, Int.reduceLT, Int.reduceEq, Int.reduceNeg, g3_20, g16_20, g17_20, g18_20, k16_20, c4_l1, h42, h43, o45, hx44, h46] <;> rfl) | rfl) (by first | (simp only [D, DT, reduceIte, reduceCtorEq, Nat.reduceEqDiff, Nat.reduceAdd, Nat.reduceLT, Nat.reduceLeDiff, Nat.reduceBEq, Int.reduceLE, Int.reduceLT, Int.reduceEq, Int.reduceNeg, g3_20, g16_20, g17_20, g18_20, k16_20, c4_l1, h42, h43, o45, hx44, h46] <;> rfl) | rfl) (by first | (simp only [D, DT, reduceIte, reduceCtorEq, Nat.reduceEqDiff, Nat.reduceAdd, Nat.reduceLT, Nat.reduceLeDiff, Nat.reduceBEq, Int.reduceLE, Int.reduceLT, Int.reduceEq, Int.reduceNeg, g3_20, g16_20, g17_20, g18_20, k16_20, c4_l1, h42, h43, o45, hx44, h46] <;> rfl) | rfl)) ?_
        · intro v57_3 e_63 H_63 g3_57_63 g16_57_63 g17_57_63 g18_57_63 k16_57_63
          simp only [D, DT, reduceIte, reduceCtorEq, Nat.reduceEqDiff, Nat.reduceAdd, Nat.reduceLT, Nat.reduceLeDiff, Nat.reduceBEq, Int.reduceLE, Int.reduceLT, Int.reduceEq, Int.reduceNeg, mandolineref08_Few.a1, g3_20, g16_20, g17_20, g18_20, k16_20, c4_l1, h42, h43, o45, hx44, h46, g3_57_63, g16_57_63, g17_57_63, g18_57_63, k16_57_63]
          exact hn _ _ _ ⟨(by first | (simp only [D, DT, reduceIte, reduceCtorEq, Nat.reduceEqDiff, Nat.reduceAdd, Nat.reduceLT, Nat.reduceLeDiff, Nat.reduceBEq, Int.reduceLE, Int.reduceLT, Int.reduceEq, Int.reduceNeg, g3_20, g16_20, g17_20, g18_20, k16_20, c4_l1, h42, h43, o45, hx44, h46, g3_57_63, g16_57_63, g17_57_63, g18_57_63, k16_57_63] <;> rfl) | rfl), (by first | (simp only [D, DT, reduceIte, reduceCtorEq, Nat.reduceEqDiff, Nat.reduceAdd, Nat.reduceLT, Nat.reduceLeDiff, Nat.reduceBEq, Int.reduceLE, Int.reduceLT, Int.reduceEq, Int.reduceNeg, g3_20, g16_20, g17_20, g18_20, k16_20, c4_l1, h42, h43, o45, hx44, h46, g3_57_63, g16_57_63, g17_57_63, g18_57_63, k16_57_63] <;> rfl) | rfl), (by first | (simp only [D, DT, reduceIte, reduceCtorEq, Nat.reduceEqDiff, Nat.reduceAdd, Nat.reduceLT, Nat.reduceLeDiff, Nat.reduceBEq, Int.reduceLE, Int.reduceLT, Int.reduceEq, Int.reduceNeg, g3_20, g16_20, g17_20, g18_20, k16_20, c4_l1, h42, h43, o45, hx44, h46, g3_57_63, g16_57_63, g17_57_63, g18_57_63, k16_57_63] <;> rfl) | rfl), (by first | (simp only [D, DT, reduceIte, reduceCtorEq, Nat.reduceEqDiff, Nat.reduceAdd, Nat.reduceLT, Nat.reduceLeDiff, Nat.reduceBEq, Int.reduceLE, Int.reduceLT, Int.reduceEq, Int.reduceNeg, g3_20, g16_20, g17_20, g18_20, k16_20, c4_l1, h42, h43, o45, hx44, h46, g3_57_63, g16_57_63, g17_57_63, g18_57_63, k16_57_63] <;> rfl) | rfl), (by first | (simp only [D, DT, reduceIte, reduceCtorEq, Nat.reduceEqDiff, Nat.reduceAdd, Nat.reduceLT, Nat.reduceLeDiff, Nat.reduceBEq, Int.reduceLE, Int.reduceLT, Int.reduceEq, Int.reduceNeg, g3_20, g16_20, g17_20, g18_20, k16_20, c4_l1, h42, h43, o45, hx44, h46, g3_57_63, g16_57_63, g17_57_63, g18_57_63, k16_57_63] <;> rfl) | rfl)⟩
        · intro e_64 H_64 g2_58_64
          simp only [D, DT, reduceIte, reduceCtorEq, Nat.reduceEqDiff, Nat.reduceAdd, Nat.reduceLT, Nat.reduceLeDiff, Nat.reduceBEq, Int.reduceLE, Int.reduceLT, Int.reduceEq, Int.reduceNeg, mandolineref08_Few.a1, g3_20, g16_20, g17_20, g18_20, k16_20, c4_l1, h42, h43, o45, hx44, h46, g2_58_64]
          exact (hret _ _ (by first | (simp only [D, DT, reduceIte, reduceCtorEq, Nat.reduceEqDiff, Nat.reduceAdd, Nat.reduceLT, Nat.reduceLeDiff, Nat.reduceBEq, Int.reduceLE, Int.reduceLT, Int.reduceEq, Int.reduceNeg, g3_20, g16_20, g17_20, g18_20, k16_20, c4_l1, h42, h43, o45, hx44, h46, g2_58_64] <;> rfl) | rfl)).trans (hd _).symm
        exact bb _ _ _
      · simp only [D, DT, reduceIte, reduceCtorEq, Nat.reduceEqDiff, Nat.reduceAdd, Nat.reduceLT, Nat.reduceLeDiff, Nat.reduceBEq, Int.reduceLE, Int.reduceLT, Int.reduceEq, Int.reduceNeg, g3_20, g16_20, g17_20, g18_20, k16_20, c4_l1, h42, h43, o45, hx44, h46]
        exact (hret _ _ (by first | (simp only [D, DT, reduceIte, reduceCtorEq, Nat.reduceEqDiff, Nat.reduceAdd, Nat.reduceLT, Nat.reduceLeDiff, Nat.reduceBEq, Int.reduceLE, Int.reduceLT, Int.reduceEq, Int.reduceNeg, g3_20, g16_20, g17_20, g18_20, k16_20, c4_l1, h42, h43, o45, hx44, h46] <;> rfl) | rfl)).trans (hd _).symm
noncomputable def mandolineref08_Few.a0 : mandolineref08_Few.l0X → Option Bool
  | .x0 v40_3 =>
    some (decide (v40_3 ≤ 400))
  | .ret =>
    some false
noncomputable def mandolineref08_Few.f (a0 : api_Cond) : Option Bool :=
  (loopL (fun (s : Int × Int) => mandolineref08_Few.l0B a0 s.1 s.2) ((a0.Range_Text.length : Int), 0)).bind (mandolineref08_Few.a0)
set_option maxHeartbeats 4000000 in
theorem mandolineref08_Few.ok (a0 : api_Cond) : ansL X 4 [(.agg [(.sl (encL api_Tag.enc a0.Match)), (.sl (encL api_Tag.enc a0.None)), (.bool a0.AnyMatch), (.bool a0.AnyNone), (.int .i64 a0.Since), (.int .i64 a0.Unless), (.str a0.Range_Text), (.bool a0.Range_Weak)])] = Option.map AV.bool (mandolineref08_Few.f a0) := by
  rw [ansL_run (fd := c4) rfl rfl]
  simp only [D, DT, reduceIte, reduceCtorEq, Nat.reduceEqDiff, Nat.reduceAdd, Nat.reduceLT, Nat.reduceLeDiff, Nat.reduceBEq, Int.reduceLE, Int.reduceLT, Int.reduceEq, Int.reduceNeg, c4, mandolineref08_Few.f]
  refine Eq.trans (mandolineref08_Few.l0_ok (fun x => Option.map AV.bool (mandolineref08_Few.a0 x)) a0 ?_ ?_ (a0.Range_Text.length : Int) 0 _ _ (by first | (simp only [D, DT, reduceIte, reduceCtorEq, Nat.reduceEqDiff, Nat.reduceAdd, Nat.reduceLT, Nat.reduceLeDiff, Nat.reduceBEq, Int.reduceLE, Int.reduceLT, Int.reduceEq, Int.reduceNeg] <;> rfl) | rfl) (by first | (simp only [D, DT, reduceIte, reduceCtorEq, Nat.reduceEqDiff, Nat.reduceAdd, Nat.reduceLT, Nat.reduceLeDiff, Nat.reduceBEq, Int.reduceLE, Int.reduceLT, Int.reduceEq, Int.reduceNeg] <;> rfl) | rfl) (by first | (simp only [D, DT, reduceIte, reduceCtorEq, Nat.reduceEqDiff, Nat.reduceAdd, Nat.reduceLT, Nat.reduceLeDiff, Nat.reduceBEq, Int.reduceLE, Int.reduceLT, Int.reduceEq, Int.reduceNeg] <;> rfl) | rfl) (by first | (simp only [D, DT, reduceIte, reduceCtorEq, Nat.reduceEqDiff, Nat.reduceAdd, Nat.reduceLT, Nat.reduceLeDiff, Nat.reduceBEq, Int.reduceLE, Int.reduceLT, Int.reduceEq, Int.reduceNeg] <;> rfl) | rfl) (by first | (simp only [D, DT, reduceIte, reduceCtorEq, Nat.reduceEqDiff, Nat.reduceAdd, Nat.reduceLT, Nat.reduceLeDiff, Nat.reduceBEq, Int.reduceLE, Int.reduceLT, Int.reduceEq, Int.reduceNeg] <;> rfl) | rfl)) ?_
  · intro v40_3 e_65 H_65 g3_40_65
    simp only [D, DT, reduceIte, reduceCtorEq, Nat.reduceEqDiff, Nat.reduceAdd, Nat.reduceLT, Nat.reduceLeDiff, Nat.reduceBEq, Int.reduceLE, Int.reduceLT, Int.reduceEq, Int.reduceNeg, mandolineref08_Few.a0, g3_40_65]
    try rfl
  · intro e_66 H_66 g2_41_66
    simp only [D, DT, reduceIte, reduceCtorEq, Nat.reduceEqDiff, Nat.reduceAdd, Nat.reduceLT, Nat.reduceLeDiff, Nat.reduceBEq, Int.reduceLE, Int.reduceLT, Int.reduceEq, Int.reduceNeg, mandolineref08_Few.a0, g2_41_66]
    try rfl
  exact mb _ _ _
noncomputable def mandolinelaw08_awake.f : Option Bool :=
  (cond_Check.f (api_Request.mk false [47, 97] [] [] [] false false (-1) (-1) [] false) (api_Meta.mk [97] false (-1) 5 0 0 0 0 [] [] false) true).bind fun x3 =>
  bif (decide (x3 = 1)) then
    (cond_Check.f (api_Request.mk false [47, 97] [] [] [(api_Tag.mk [97] true)] false false (-1) (-1) [] false) (api_Meta.mk [97] false (-1) 5 0 0 0 0 [] [] false) true).bind fun x7 =>
    bif (decide (x7 = 3)) then
      (cond_Check.f (api_Request.mk false [47, 97] [(api_Spec.mk 1 (-1))] [] [] false false (-1) (-1) [97] true) (api_Meta.mk [97] false (-1) 5 0 0 0 0 [] [] false) true).bind fun x11 =>
      some (decide (x11 = 2))
    else
      some false
  else
    some false
set_option maxHeartbeats 4000000 in
theorem mandolinelaw08_awake.ok : ansL X 5 [] = Option.map AV.bool (mandolinelaw08_awake.f) := by
  rw [ansL_run (fd := c5) rfl rfl]
  simp only [D, DT, reduceIte, reduceCtorEq, Nat.reduceEqDiff, Nat.reduceAdd, Nat.reduceLT, Nat.reduceLeDiff, Nat.reduceBEq, Int.reduceLE, Int.reduceLT, Int.reduceEq, Int.reduceNeg, c5, mandolinelaw08_awake.f]
  rw [ans_in (fd := c7) rfl rfl]
  simp only [D, DT, reduceIte, reduceCtorEq, Nat.reduceEqDiff, Nat.reduceAdd, Nat.reduceLT, Nat.reduceLeDiff, Nat.reduceBEq, Int.reduceLE, Int.reduceLT, Int.reduceEq, Int.reduceNeg, c7]
  have c1 : ansL X 6 [(.agg [(.bool false), (.str [47, 97]), (.sl []), (.sl []), (.sl []), (.bool false), (.bool false), (.int .i64 (-1)), (.int .i64 (-1)), (.str []), (.bool false)]), (.agg [(.str [97]), (.bool false), (.int .i64 (-1)), (.int .i64 5), (.int .i64 0), (.int .i64 0), (.int .i64 0), (.int .i64 0), (.sl []), (.str []), (.bool false)]), (.bool true)] = Option.map (AV.int .i64) (cond_Check.f (api_Request.mk false [47, 97] [] [] [] false false (-1) (-1) [] false) (api_Meta.mk [97] false (-1) 5 0 0 0 0 [] [] false) true) := cond_Check.ok (api_Request.mk false [47, 97] [] [] [] false false (-1) (-1) [] false) (api_Meta.mk [97] false (-1) 5 0 0 0 0 [] [] false) true
  rcases h2 : cond_Check.f (api_Request.mk false [47, 97] [] [] [] false false (-1) (-1) [] false) (api_Meta.mk [97] false (-1) 5 0 0 0 0 [] [] false) true with _ | x3
  · simp only [D, DT, reduceIte, reduceCtorEq, Nat.reduceEqDiff, Nat.reduceAdd, Nat.reduceLT, Nat.reduceLeDiff, Nat.reduceBEq, Int.reduceLE, Int.reduceLT, Int.reduceEq, Int.reduceNeg, c1, h2]
  · simp only [D, DT, reduceIte, reduceCtorEq, Nat.reduceEqDiff, Nat.reduceAdd, Nat.reduceLT, Nat.reduceLeDiff, Nat.reduceBEq, Int.reduceLE, Int.reduceLT, Int.reduceEq, Int.reduceNeg, c1, h2]
    cases h4 : (decide (x3 = 1))
    · simp only [D, DT, reduceIte, reduceCtorEq, Nat.reduceEqDiff, Nat.reduceAdd, Nat.reduceLT, Nat.reduceLeDiff, Nat.reduceBEq, Int.reduceLE, Int.reduceLT, Int.reduceEq, Int.reduceNeg, c1, h2, h4]
      try rfl
    · simp only [D, DT, reduceIte, reduceCtorEq, Nat.reduceEqDiff, Nat.reduceAdd, Nat.reduceLT, Nat.reduceLeDiff, Nat.reduceBEq, Int.reduceLE, Int.reduceLT, Int.reduceEq, Int.reduceNeg, c1, h2, h4]
      have c5 : ansL X 6 [(.agg [(.bool false), (.str [47, 97]), (.sl []), (.sl []), (.sl [(.agg [(.str [97]), (.bool true)])]), (.bool false), (.bool false), (.int .i64 (-1)), (.int .i64 (-1)), (.str []), (.bool false)]), (.agg [(.str [97]), (.bool false), (.int .i64 (-1)), (.int .i64 5), (.int .i64 0), (.int .i64 0), (.int .i64 0), (.int .i64 0), (.sl []), (.str []), (.bool false)]), (.bool true)] = Option.map (AV.int .i64) (cond_Check.f (api_Request.mk false [47, 97] [] [] [(api_Tag.mk [97] true)] false false (-1) (-1) [] false) (api_Meta.mk [97] false (-1) 5 0 0 0 0 [] [] false) true) := cond_Check.ok (api_Request.mk false [47, 97] [] [] [(api_Tag.mk [97] true)] false false (-1) (-1) [] false) (api_Meta.mk [97] false (-1) 5 0 0 0 0 [] [] false) true
      rcases h6 : cond_Check.f (api_Request.mk false [47, 97] [] [] [(api_Tag.mk [97] true)] false false (-1) (-1) [] false) (api_Meta.mk [97] false (-1) 5 0 0 0 0 [] [] false) true with _ | x7
      · simp only [D, DT, reduceIte, reduceCtorEq, Nat.reduceEqDiff, Nat.reduceAdd, Nat.reduceLT, Nat.reduceLeDiff, Nat.reduceBEq, Int.reduceLE, Int.reduceLT, Int.reduceEq, Int.reduceNeg, c1, h2, h4, c5, h6]
      · simp only [D, DT, reduceIte, reduceCtorEq, Nat.reduceEqDiff, Nat.reduceAdd, Nat.reduceLT, Nat.reduceLeDiff, Nat.reduceBEq, Int.reduceLE, Int.reduceLT, Int.reduceEq, Int.reduceNeg, c1, h2, h4, c5, h6]
        cases h8 : (decide (x7 = 3))
        · simp only [D, DT, reduceIte, reduceCtorEq, Nat.reduceEqDiff, Nat.reduceAdd, Nat.reduceLT, Nat.reduceLeDiff, Nat.reduceBEq, Int.reduceLE, Int.reduceLT, Int.reduceEq, Int.reduceNeg, c1, h2, h4, c5, h6, h8]
          try rfl
        · simp only [D, DT, reduceIte, reduceCtorEq, Nat.reduceEqDiff, Nat.reduceAdd, Nat.reduceLT, Nat.reduceLeDiff, Nat.reduceBEq, Int.reduceLE, Int.reduceLT, Int.reduceEq, Int.reduceNeg, c1, h2, h4, c5, h6, h8]
          have c9 : ansL X 6 [(.agg [(.bool false), (.str [47, 97]), (.sl [(.agg [(.int .i64 1), (.int .i64 (-1))])]), (.sl []), (.sl []), (.bool false), (.bool false), (.int .i64 (-1)), (.int .i64 (-1)), (.str [97]), (.bool true)]), (.agg [(.str [97]), (.bool false), (.int .i64 (-1)), (.int .i64 5), (.int .i64 0), (.int .i64 0), (.int .i64 0), (.int .i64 0), (.sl []), (.str []), (.bool false)]), (.bool true)] = Option.map (AV.int .i64) (cond_Check.f (api_Request.mk false [47, 97] [(api_Spec.mk 1 (-1))] [] [] false false (-1) (-1) [97] true) (api_Meta.mk [97] false (-1) 5 0 0 0 0 [] [] false) true) := cond_Check.ok (api_Request.mk false [47, 97] [(api_Spec.mk 1 (-1))] [] [] false false (-1) (-1) [97] true) (api_Meta.mk [97] false (-1) 5 0 0 0 0 [] [] false) true
          rcases h10 : cond_Check.f (api_Request.mk false [47, 97] [(api_Spec.mk 1 (-1))] [] [] false false (-1) (-1) [97] true) (api_Meta.mk [97] false (-1) 5 0 0 0 0 [] [] false) true with _ | x11
          · simp only [D, DT, reduceIte, reduceCtorEq, Nat.reduceEqDiff, Nat.reduceAdd, Nat.reduceLT, Nat.reduceLeDiff, Nat.reduceBEq, Int.reduceLE, Int.reduceLT, Int.reduceEq, Int.reduceNeg, c1, h2, h4, c5, h6, h8, c9, h10]
          · simp only [D, DT, reduceIte, reduceCtorEq, Nat.reduceEqDiff, Nat.reduceAdd, Nat.reduceLT, Nat.reduceLeDiff, Nat.reduceBEq, Int.reduceLE, Int.reduceLT, Int.reduceEq, Int.reduceNeg, c1, h2, h4, c5, h6, h8, c9, h10]
            try rfl
noncomputable def mandolinelaw08_CondNone.f (a0 : api_Request) (a1 : api_Meta) (a2 : Bool) : Option Bool :=
  (mandolineref08_Few.f (api_Cond.mk a0.Cond_Match a0.Cond_None a0.Cond_AnyMatch a0.Cond_AnyNone a0.Cond_Since a0.Cond_Unless a0.Cond_Range_Text a0.Cond_Range_Weak)).bind fun x3 =>
  bif x3 then
    bif (decide ((70 : Int) < (a0.Specs.length : Int))) then
      (mandolinelaw08_awake.f).bind fun x46 =>
      some x46
    else
      bif (decide ((0 : Int) < (a0.Cond_Match.length : Int))) then
        (cond_Check.f a0 a1 false).bind fun x34 =>
        bif (decide (x34 = 4)) then
          (cond_Check.f (api_Request.mk a0.Head a0.Object a0.Specs [] [] false false (-1) (-1) [] false) a1 a2).bind fun x38 =>
          bif (decide (x38 = 1)) then
            (mandolinelaw08_awake.f).bind fun x43 =>
            some x43
          else
            some false
        else
          some false
      else
        (cond_Check.f a0 a1 false).bind fun x12 =>
        bif a0.Cond_AnyMatch then
          bif (decide (x12 = 4)) then
            (cond_Check.f (api_Request.mk a0.Head a0.Object a0.Specs [] [] false false (-1) (-1) [] false) a1 a2).bind fun x26 =>
            bif (decide (x26 = 1)) then
              (mandolinelaw08_awake.f).bind fun x31 =>
              some x31
            else
              some false
          else
            some false
        else
          bif (decide (x12 = 1)) then
            (cond_Check.f (api_Request.mk a0.Head a0.Object a0.Specs [] [] false false (-1) (-1) [] false) a1 a2).bind fun x17 =>
            bif (decide (x17 = 1)) then
              (mandolinelaw08_awake.f).bind fun x22 =>
              some x22
            else
              some false
          else
            some false
  else
    (mandolinelaw08_awake.f).bind fun x7 =>
    some x7
set_option maxHeartbeats 4000000 in
theorem mandolinelaw08_CondNone.ok (a0 : api_Request) (a1 : api_Meta) (a2 : Bool) : ansL X 3 [(.agg [(.bool a0.Head), (.str a0.Object), (.sl (encL api_Spec.enc a0.Specs)), (.sl (encL api_Tag.enc a0.Cond_Match)), (.sl (encL api_Tag.enc a0.Cond_None)), (.bool a0.Cond_AnyMatch), (.bool a0.Cond_AnyNone), (.int .i64 a0.Cond_Since), (.int .i64 a0.Cond_Unless), (.str a0.Cond_Range_Text), (.bool a0.Cond_Range_Weak)]), (.agg [(.str a1.Tag_Text), (.bool a1.Tag_Weak), (.int .i64 a1.Modified), (.int .i64 a1.Length), (.int .i64 a1.Have), (.int .i64 a1.Fresh), (.int .i64 a1.While), (.int .i64 a1.Error), (.sl (encL AV.str a1.Keys)), (.str a1.Tenant), (.bool a1.Keep)]), (.bool a2)] = Option.map AV.bool (mandolinelaw08_CondNone.f a0 a1 a2) := by
  rw [ansL_run (fd := c3) rfl rfl]
  simp only [D, DT, reduceIte, reduceCtorEq, Nat.reduceEqDiff, Nat.reduceAdd, Nat.reduceLT, Nat.reduceLeDiff, Nat.reduceBEq, Int.reduceLE, Int.reduceLT, Int.reduceEq, Int.reduceNeg, c3, mandolinelaw08_CondNone.f]
  have c1 : ansL X 4 [(.agg [(.sl (encL api_Tag.enc a0.Cond_Match)), (.sl (encL api_Tag.enc a0.Cond_None)), (.bool a0.Cond_AnyMatch), (.bool a0.Cond_AnyNone), (.int .i64 a0.Cond_Since), (.int .i64 a0.Cond_Unless), (.str a0.Cond_Range_Text), (.bool a0.Cond_Range_Weak)])] = Option.map AV.bool (mandolineref08_Few.f (api_Cond.mk a0.Cond_Match a0.Cond_None a0.Cond_AnyMatch a0.Cond_AnyNone a0.Cond_Since a0.Cond_Unless a0.Cond_Range_Text a0.Cond_Range_Weak)) := mandolineref08_Few.ok (api_Cond.mk a0.Cond_Match a0.Cond_None a0.Cond_AnyMatch a0.Cond_AnyNone a0.Cond_Since a0.Cond_Unless a0.Cond_Range_Text a0.Cond_Range_Weak)
  rcases h2 : mandolineref08_Few.f (api_Cond.mk a0.Cond_Match a0.Cond_None a0.Cond_AnyMatch a0.Cond_AnyNone a0.Cond_Since a0.Cond_Unless a0.Cond_Range_Text a0.Cond_Range_Weak) with _ | x3
  · simp only [D, DT, reduceIte, reduceCtorEq, Nat.reduceEqDiff, Nat.reduceAdd, Nat.reduceLT, Nat.reduceLeDiff, Nat.reduceBEq, Int.reduceLE, Int.reduceLT, Int.reduceEq, Int.reduceNeg, c1, h2]
  · simp only [D, DT, reduceIte, reduceCtorEq, Nat.reduceEqDiff, Nat.reduceAdd, Nat.reduceLT, Nat.reduceLeDiff, Nat.reduceBEq, Int.reduceLE, Int.reduceLT, Int.reduceEq, Int.reduceNeg, c1, h2]
    cases h4 : x3
    · simp only [D, DT, reduceIte, reduceCtorEq, Nat.reduceEqDiff, Nat.reduceAdd, Nat.reduceLT, Nat.reduceLeDiff, Nat.reduceBEq, Int.reduceLE, Int.reduceLT, Int.reduceEq, Int.reduceNeg, c1, h2, h4]
      have c5 : ansL X 5 [] = Option.map AV.bool (mandolinelaw08_awake.f) := mandolinelaw08_awake.ok
      rcases h6 : mandolinelaw08_awake.f with _ | x7
      · simp only [D, DT, reduceIte, reduceCtorEq, Nat.reduceEqDiff, Nat.reduceAdd, Nat.reduceLT, Nat.reduceLeDiff, Nat.reduceBEq, Int.reduceLE, Int.reduceLT, Int.reduceEq, Int.reduceNeg, c1, h2, h4, c5, h6]
      · simp only [D, DT, reduceIte, reduceCtorEq, Nat.reduceEqDiff, Nat.reduceAdd, Nat.reduceLT, Nat.reduceLeDiff, Nat.reduceBEq, Int.reduceLE, Int.reduceLT, Int.reduceEq, Int.reduceNeg, c1, h2, h4, c5, h6]
        try rfl
    · simp only [D, DT, reduceIte, reduceCtorEq, Nat.reduceEqDiff, Nat.reduceAdd, Nat.reduceLT, Nat.reduceLeDiff, Nat.reduceBEq, Int.reduceLE, Int.reduceLT, Int.reduceEq, Int.reduceNeg, c1, h2, h4]
      cases h8 : (decide ((70 : Int) < (a0.Specs.length : Int)))
      · simp only [D, DT, reduceIte, reduceCtorEq, Nat.reduceEqDiff, Nat.reduceAdd, Nat.reduceLT, Nat.reduceLeDiff, Nat.reduceBEq, Int.reduceLE, Int.reduceLT, Int.reduceEq, Int.reduceNeg, c1, h2, h4, h8]
        cases h9 : (decide ((0 : Int) < (a0.Cond_Match.length : Int)))
        · simp only [D, DT, reduceIte, reduceCtorEq, Nat.reduceEqDiff, Nat.reduceAdd, Nat.reduceLT, Nat.reduceLeDiff, Nat.reduceBEq, Int.reduceLE, Int.reduceLT, Int.reduceEq, Int.reduceNeg, c1, h2, h4, h8, h9]
          have c10 : ansL X 6 [(.agg [(.bool a0.Head), (.str a0.Object), (.sl (encL api_Spec.enc a0.Specs)), (.sl (encL api_Tag.enc a0.Cond_Match)), (.sl (encL api_Tag.enc a0.Cond_None)), (.bool a0.Cond_AnyMatch), (.bool a0.Cond_AnyNone), (.int .i64 a0.Cond_Since), (.int .i64 a0.Cond_Unless), (.str a0.Cond_Range_Text), (.bool a0.Cond_Range_Weak)]), (.agg [(.str a1.Tag_Text), (.bool a1.Tag_Weak), (.int .i64 a1.Modified), (.int .i64 a1.Length), (.int .i64 a1.Have), (.int .i64 a1.Fresh), (.int .i64 a1.While), (.int .i64 a1.Error), (.sl (encL AV.str a1.Keys)), (.str a1.Tenant), (.bool a1.Keep)]), (.bool false)] = Option.map (AV.int .i64) (cond_Check.f a0 a1 false) := cond_Check.ok a0 a1 false
          rcases h11 : cond_Check.f a0 a1 false with _ | x12
          · simp only [D, DT, reduceIte, reduceCtorEq, Nat.reduceEqDiff, Nat.reduceAdd, Nat.reduceLT, Nat.reduceLeDiff, Nat.reduceBEq, Int.reduceLE, Int.reduceLT, Int.reduceEq, Int.reduceNeg, c1, h2, h4, h8, h9, c10, h11]
          · simp only [D, DT, reduceIte, reduceCtorEq, Nat.reduceEqDiff, Nat.reduceAdd, Nat.reduceLT, Nat.reduceLeDiff, Nat.reduceBEq, Int.reduceLE, Int.reduceLT, Int.reduceEq, Int.reduceNeg, c1, h2, h4, h8, h9, c10, h11]
            cases h13 : a0.Cond_AnyMatch
            · simp only [D, DT, reduceIte, reduceCtorEq, Nat.reduceEqDiff, Nat.reduceAdd, Nat.reduceLT, Nat.reduceLeDiff, Nat.reduceBEq, Int.reduceLE, Int.reduceLT, Int.reduceEq, Int.reduceNeg, c1, h2, h4, h8, h9, c10, h11, h13]
              cases h14 : (decide (x12 = 1))
              · simp only [D, DT, reduceIte, reduceCtorEq, Nat.reduceEqDiff, Nat.reduceAdd, Nat.reduceLT, Nat.reduceLeDiff, Nat.reduceBEq, Int.reduceLE, Int.reduceLT, Int.reduceEq, Int.reduceNeg, c1, h2, h4, h8, h9, c10, h11, h13, h14]
                try rfl
              · simp only [D, DT, reduceIte, reduceCtorEq, Nat.reduceEqDiff, Nat.reduceAdd, Nat.reduceLT, Nat.reduceLeDiff, Nat.reduceBEq, Int.reduceLE, Int.reduceLT, Int.reduceEq, Int.reduceNeg, c1, h2, h4, h8, h9, c10, h11, h13, h14]
                rw [ans_in (fd := c7) rfl rfl]
                simp only [D, DT, reduceIte, reduceCtorEq, Nat.reduceEqDiff, Nat.reduceAdd, Nat.reduceLT, Nat.reduceLeDiff, Nat.reduceBEq, Int.reduceLE, Int.reduceLT, Int.reduceEq, Int.reduceNeg, c7, c1, h2, h4, h8, h9, c10, h11, h13, h14]
                have c15 : ansL X 6 [(.agg [(.bool a0.Head), (.str a0.Object), (.sl (encL api_Spec.enc a0.Specs)), (.sl []), (.sl []), (.bool false), (.bool false), (.int .i64 (-1)), (.int .i64 (-1)), (.str []), (.bool false)]), (.agg [(.str a1.Tag_Text), (.bool a1.Tag_Weak), (.int .i64 a1.Modified), (.int .i64 a1.Length), (.int .i64 a1.Have), (.int .i64 a1.Fresh), (.int .i64 a1.While), (.int .i64 a1.Error), (.sl (encL AV.str a1.Keys)), (.str a1.Tenant), (.bool a1.Keep)]), (.bool a2)] = Option.map (AV.int .i64) (cond_Check.f (api_Request.mk a0.Head a0.Object a0.Specs [] [] false false (-1) (-1) [] false) a1 a2) := cond_Check.ok (api_Request.mk a0.Head a0.Object a0.Specs [] [] false false (-1) (-1) [] false) a1 a2
                rcases h16 : cond_Check.f (api_Request.mk a0.Head a0.Object a0.Specs [] [] false false (-1) (-1) [] false) a1 a2 with _ | x17
                · simp only [D, DT, reduceIte, reduceCtorEq, Nat.reduceEqDiff, Nat.reduceAdd, Nat.reduceLT, Nat.reduceLeDiff, Nat.reduceBEq, Int.reduceLE, Int.reduceLT, Int.reduceEq, Int.reduceNeg, c1, h2, h4, h8, h9, c10, h11, h13, h14, c15, h16]
                · simp only [D, DT, reduceIte, reduceCtorEq, Nat.reduceEqDiff, Nat.reduceAdd, Nat.reduceLT, Nat.reduceLeDiff, Nat.reduceBEq, Int.reduceLE, Int.reduceLT, Int.reduceEq, Int.reduceNeg, c1, h2, h4, h8, h9, c10, h11, h13, h14, c15, h16]
                  cases h18 : (decide (x17 = 1))
                  · simp only [D, DT, reduceIte, reduceCtorEq, Nat.reduceEqDiff, Nat.reduceAdd, Nat.reduceLT, Nat.reduceLeDiff, Nat.reduceBEq, Int.reduceLE, Int.reduceLT, Int.reduceEq, Int.reduceNeg, c1, h2, h4, h8, h9, c10, h11, h13, h14, c15, h16, h18]
                    try rfl
                  · simp only [D, DT, reduceIte, reduceCtorEq, Nat.reduceEqDiff, Nat.reduceAdd, Nat.reduceLT, Nat.reduceLeDiff, Nat.reduceBEq, Int.reduceLE, Int.reduceLT, Int.reduceEq, Int.reduceNeg, c1, h2, h4, h8, h9, c10, h11, h13, h14, c15, h16, h18]
                    rw [ans_in (fd := c7) rfl rfl]
                    simp only [D, DT, reduceIte, reduceCtorEq, Nat.reduceEqDiff, Nat.reduceAdd, Nat.reduceLT, Nat.reduceLeDiff, Nat.reduceBEq, Int.reduceLE, Int.reduceLT, Int.reduceEq, Int.reduceNeg, c7, c1, h2, h4, h8, h9, c10, h11, h13, h14, c15, h16, h18]
                    have c19 : ansL X 8 [(.agg [(.sl []), (.sl []), (.bool false), (.bool false), (.int .i64 (-1)), (.int .i64 (-1)), (.str []), (.bool false)])] = some (.bool true) := ansL_of (k := 60) (by kernel_rfl)
                    simp only [D, DT, reduceIte, reduceCtorEq, Nat.reduceEqDiff, Nat.reduceAdd, Nat.reduceLT, Nat.reduceLeDiff, Nat.reduceBEq, Int.reduceLE, Int.reduceLT, Int.reduceEq, Int.reduceNeg, c1, h2, h4, h8, h9, c10, h11, h13, h14, c15, h16, h18, c19]
                    have c20 : ansL X 5 [] = Option.map AV.bool (mandolinelaw08_awake.f) := mandolinelaw08_awake.ok
                    rcases h21 : mandolinelaw08_awake.f with _ | x22
                    · simp only [D, DT, reduceIte, reduceCtorEq, Nat.reduceEqDiff, Nat.reduceAdd, Nat.reduceLT, Nat.reduceLeDiff, Nat.reduceBEq, Int.reduceLE, Int.reduceLT, Int.reduceEq, Int.reduceNeg, c1, h2, h4, h8, h9, c10, h11, h13, h14, c15, h16, h18, c19, c20, h21]
                    · simp only [D, DT, reduceIte, reduceCtorEq, Nat.reduceEqDiff, Nat.reduceAdd, Nat.reduceLT, Nat.reduceLeDiff, Nat.reduceBEq, Int.reduceLE, Int.reduceLT, Int.reduceEq, Int.reduceNeg, c1, h2, h4, h8, h9, c10, h11, h13, h14, c15, h16, h18, c19, c20, h21]
                      try rfl
            · simp only [D, DT, reduceIte, reduceCtorEq, Nat.reduceEqDiff, Nat.reduceAdd, Nat.reduceLT, Nat.reduceLeDiff, Nat.reduceBEq, Int.reduceLE, Int.reduceLT, Int.reduceEq, Int.reduceNeg, c1, h2, h4, h8, h9, c10, h11, h13]
              cases h23 : (decide (x12 = 4))
              · simp only [D, DT, reduceIte, reduceCtorEq, Nat.reduceEqDiff, Nat.reduceAdd, Nat.reduceLT, Nat.reduceLeDiff, Nat.reduceBEq, Int.reduceLE, Int.reduceLT, Int.reduceEq, Int.reduceNeg, c1, h2, h4, h8, h9, c10, h11, h13, h23]
                try rfl
              · simp only [D, DT, reduceIte, reduceCtorEq, Nat.reduceEqDiff, Nat.reduceAdd, Nat.reduceLT, Nat.reduceLeDiff, Nat.reduceBEq, Int.reduceLE, Int.reduceLT, Int.reduceEq, Int.reduceNeg, c1, h2, h4, h8, h9, c10, h11, h13, h23]
                rw [ans_in (fd := c7) rfl rfl]
                simp only [D, DT, reduceIte, reduceCtorEq, Nat.reduceEqDiff, Nat.reduceAdd, Nat.reduceLT, Nat.reduceLeDiff, Nat.reduceBEq, Int.reduceLE, Int.reduceLT, Int.reduceEq, Int.reduceNeg, c7, c1, h2, h4, h8, h9, c10, h11, h13, h23]
                have c24 : ansL X 6 [(.agg [(.bool a0.Head), (.str a0.Object), (.sl (encL api_Spec.enc a0.Specs)), (.sl []), (.sl []), (.bool false), (.bool false), (.int .i64 (-1)), (.int .i64 (-1)), (.str []), (.bool false)]), (.agg [(.str a1.Tag_Text), (.bool a1.Tag_Weak), (.int .i64 a1.Modified), (.int .i64 a1.Length), (.int .i64 a1.Have), (.int .i64 a1.Fresh), (.int .i64 a1.While), (.int .i64 a1.Error), (.sl (encL AV.str a1.Keys)), (.str a1.Tenant), (.bool a1.Keep)]), (.bool a2)] = Option.map (AV.int .i64) (cond_Check.f (api_Request.mk a0.Head a0.Object a0.Specs [] [] false false (-1) (-1) [] false) a1 a2) := cond_Check.ok (api_Request.mk a0.Head a0.Object a0.Specs [] [] false false (-1) (-1) [] false) a1 a2
                rcases h25 : cond_Check.f (api_Request.mk a0.Head a0.Object a0.Specs [] [] false false (-1) (-1) [] false) a1 a2 with _ | x26
                · simp only [D, DT, reduceIte, reduceCtorEq, Nat.reduceEqDiff, Nat.reduceAdd, Nat.reduceLT, Nat.reduceLeDiff, Nat.reduceBEq, Int.reduceLE, Int.reduceLT, Int.reduceEq, Int.reduceNeg, c1, h2, h4, h8, h9, c10, h11, h13, h23, c24, h25]
                · simp only [D, DT, reduceIte, reduceCtorEq, Nat.reduceEqDiff, Nat.reduceAdd, Nat.reduceLT, Nat.reduceLeDiff, Nat.reduceBEq, Int.reduceLE, Int.reduceLT, Int.reduceEq, Int.reduceNeg, c1, h2, h4, h8, h9, c10, h11, h13, h23, c24, h25]
                  cases h27 : (decide (x26 = 1))
                  · simp only [D, DT, reduceIte, reduceCtorEq, Nat.reduceEqDiff, Nat.reduceAdd, Nat.reduceLT, Nat.reduceLeDiff, Nat.reduceBEq, Int.reduceLE, Int.reduceLT, Int.reduceEq, Int.reduceNeg, c1, h2, h4, h8, h9, c10, h11, h13, h23, c24, h25, h27]
                    try rfl
                  · simp only [D, DT, reduceIte, reduceCtorEq, Nat.reduceEqDiff, Nat.reduceAdd, Nat.reduceLT, Nat.reduceLeDiff, Nat.reduceBEq, Int.reduceLE, Int.reduceLT, Int.reduceEq, Int.reduceNeg, c1, h2, h4, h8, h9, c10, h11, h13, h23, c24, h25, h27]
                    rw [ans_in (fd := c7) rfl rfl]
                    simp only [D, DT, reduceIte, reduceCtorEq, Nat.reduceEqDiff, Nat.reduceAdd, Nat.reduceLT, Nat.reduceLeDiff, Nat.reduceBEq, Int.reduceLE, Int.reduceLT, Int.reduceEq, Int.reduceNeg, c7, c1, h2, h4, h8, h9, c10, h11, h13, h23, c24, h25, h27]
                    have c28 : ansL X 8 [(.agg [(.sl []), (.sl []), (.bool false), (.bool false), (.int .i64 (-1)), (.int .i64 (-1)), (.str []), (.bool false)])] = some (.bool true) := ansL_of (k := 60) (by kernel_rfl)
                    simp only [D, DT, reduceIte, reduceCtorEq, Nat.reduceEqDiff, Nat.reduceAdd, Nat.reduceLT, Nat.reduceLeDiff, Nat.reduceBEq, Int.reduceLE, Int.reduceLT, Int.reduceEq, Int.reduceNeg, c1, h2, h4, h8, h9, c10, h11, h13, h23, c24, h25, h27, c28]
                    have c29 : ansL X 5 [] = Option.map AV.bool (mandolinelaw08_awake.f) := mandolinelaw08_awake.ok
                    rcases h30 : mandolinelaw08_awake.f with _ | x31
                    · simp only [D, DT, reduceIte, reduceCtorEq, Nat.reduceEqDiff, Nat.reduceAdd, Nat.reduceLT, Nat.reduceLeDiff, Nat.reduceBEq, Int.reduceLE, Int.reduceLT, Int.reduceEq, Int.reduceNeg, c1, h2, h4, h8, h9, c10, h11, h13, h23, c24, h25, h27, c28, c29, h30]
                    · simp only [D, DT, reduceIte, reduceCtorEq, Nat.reduceEqDiff, Nat.reduceAdd, Nat.reduceLT, Nat.reduceLeDiff, Nat.reduceBEq, Int.reduceLE, Int.reduceLT, Int.reduceEq, Int.reduceNeg, c1, h2, h4, h8, h9, c10, h11, h13, h23, c24, h25, h27, c28, c29, h30]
                      try rfl
        · simp only [D, DT, reduceIte, reduceCtorEq, Nat.reduceEqDiff, Nat.reduceAdd, Nat.reduceLT, Nat.reduceLeDiff, Nat.reduceBEq, Int.reduceLE, Int.reduceLT, Int.reduceEq, Int.reduceNeg, c1, h2, h4, h8, h9]
          have c32 : ansL X 6 [(.agg [(.bool a0.Head), (.str a0.Object), (.sl (encL api_Spec.enc a0.Specs)), (.sl (encL api_Tag.enc a0.Cond_Match)), (.sl (encL api_Tag.enc a0.Cond_None)), (.bool a0.Cond_AnyMatch), (.bool a0.Cond_AnyNone), (.int .i64 a0.Cond_Since), (.int .i64 a0.Cond_Unless), (.str a0.Cond_Range_Text), (.bool a0.Cond_Range_Weak)]), (.agg [(.str a1.Tag_Text), (.bool a1.Tag_Weak), (.int .i64 a1.Modified), (.int .i64 a1.Length), (.int .i64 a1.Have), (.int .i64 a1.Fresh), (.int .i64 a1.While), (.int .i64 a1.Error), (.sl (encL AV.str a1.Keys)), (.str a1.Tenant), (.bool a1.Keep)]), (.bool false)] = Option.map (AV.int .i64) (cond_Check.f a0 a1 false) := cond_Check.ok a0 a1 false
          rcases h33 : cond_Check.f a0 a1 false with _ | x34
          · simp only [D, DT, reduceIte, reduceCtorEq, Nat.reduceEqDiff, Nat.reduceAdd, Nat.reduceLT, Nat.reduceLeDiff, Nat.reduceBEq, Int.reduceLE, Int.reduceLT, Int.reduceEq, Int.reduceNeg, c1, h2, h4, h8, h9, c32, h33]
          · simp only [D, DT, reduceIte, reduceCtorEq, Nat.reduceEqDiff, Nat.reduceAdd, Nat.reduceLT, Nat.reduceLeDiff, Nat.reduceBEq, Int.reduceLE, Int.reduceLT, Int.reduceEq, Int.reduceNeg, c1, h2, h4, h8, h9, c32, h33]
            cases h35 : (decide (x34 = 4))
            · simp only [D, DT, reduceIte, reduceCtorEq, Nat.reduceEqDiff, Nat.reduceAdd, Nat.reduceLT, Nat.reduceLeDiff, Nat.reduceBEq, Int.reduceLE, Int.reduceLT, Int.reduceEq, Int.reduceNeg, c1, h2, h4, h8, h9, c32, h33, h35]
              try rfl
            · simp only [D, DT, reduceIte, reduceCtorEq, Nat.reduceEqDiff, Nat.reduceAdd, Nat.reduceLT, Nat.reduceLeDiff, Nat.reduceBEq, Int.reduceLE, Int.reduceLT, Int.reduceEq, Int.reduceNeg, c1, h2, h4, h8, h9, c32, h33, h35]
              rw [ans_in (fd := c7) rfl rfl]
              simp only [D, DT, reduceIte, reduceCtorEq, Nat.reduceEqDiff, Nat.reduceAdd, Nat.reduceLT, Nat.reduceLeDiff, Nat.reduceBEq, Int.reduceLE, Int.reduceLT, Int.reduceEq, Int.reduceNeg, c7, c1, h2, h4, h8, h9, c32, h33, h35]
              have c36 : ansL X 6 [(.agg [(.bool a0.Head), (.str a0.Object), (.sl (encL api_Spec.enc a0.Specs)), (.sl []), (.sl []), (.bool false), (.bool false), (.int .i64 (-1)), (.int .i64 (-1)), (.str []), (.bool false)]), (.agg [(.str a1.Tag_Text), (.bool a1.Tag_Weak), (.int .i64 a1.Modified), (.int .i64 a1.Length), (.int .i64 a1.Have), (.int .i64 a1.Fresh), (.int .i64 a1.While), (.int .i64 a1.Error), (.sl (encL AV.str a1.Keys)), (.str a1.Tenant), (.bool a1.Keep)]), (.bool a2)] = Option.map (AV.int .i64) (cond_Check.f (api_Request.mk a0.Head a0.Object a0.Specs [] [] false false (-1) (-1) [] false) a1 a2) := cond_Check.ok (api_Request.mk a0.Head a0.Object a0.Specs [] [] false false (-1) (-1) [] false) a1 a2
              rcases h37 : cond_Check.f (api_Request.mk a0.Head a0.Object a0.Specs [] [] false false (-1) (-1) [] false) a1 a2 with _ | x38
              · simp only [D, DT, reduceIte, reduceCtorEq, Nat.reduceEqDiff, Nat.reduceAdd, Nat.reduceLT, Nat.reduceLeDiff, Nat.reduceBEq, Int.reduceLE, Int.reduceLT, Int.reduceEq, Int.reduceNeg, c1, h2, h4, h8, h9, c32, h33, h35, c36, h37]
              · simp only [D, DT, reduceIte, reduceCtorEq, Nat.reduceEqDiff, Nat.reduceAdd, Nat.reduceLT, Nat.reduceLeDiff, Nat.reduceBEq, Int.reduceLE, Int.reduceLT, Int.reduceEq, Int.reduceNeg, c1, h2, h4, h8, h9, c32, h33, h35, c36, h37]
                cases h39 : (decide (x38 = 1))
                · simp only [D, DT, reduceIte, reduceCtorEq, Nat.reduceEqDiff, Nat.reduceAdd, Nat.reduceLT, Nat.reduceLeDiff, Nat.reduceBEq, Int.reduceLE, Int.reduceLT, Int.reduceEq, Int.reduceNeg, c1, h2, h4, h8, h9, c32, h33, h35, c36, h37, h39]
                  try rfl
                · simp only [D, DT, reduceIte, reduceCtorEq, Nat.reduceEqDiff, Nat.reduceAdd, Nat.reduceLT, Nat.reduceLeDiff, Nat.reduceBEq, Int.reduceLE, Int.reduceLT, Int.reduceEq, Int.reduceNeg, c1, h2, h4, h8, h9, c32, h33, h35, c36, h37, h39]
                  rw [ans_in (fd := c7) rfl rfl]
                  simp only [D, DT, reduceIte, reduceCtorEq, Nat.reduceEqDiff, Nat.reduceAdd, Nat.reduceLT, Nat.reduceLeDiff, Nat.reduceBEq, Int.reduceLE, Int.reduceLT, Int.reduceEq, Int.reduceNeg, c7, c1, h2, h4, h8, h9, c32, h33, h35, c36, h37, h39]
                  have c40 : ansL X 8 [(.agg [(.sl []), (.sl []), (.bool false), (.bool false), (.int .i64 (-1)), (.int .i64 (-1)), (.str []), (.bool false)])] = some (.bool true) := ansL_of (k := 60) (by kernel_rfl)
                  simp only [D, DT, reduceIte, reduceCtorEq, Nat.reduceEqDiff, Nat.reduceAdd, Nat.reduceLT, Nat.reduceLeDiff, Nat.reduceBEq, Int.reduceLE, Int.reduceLT, Int.reduceEq, Int.reduceNeg, c1, h2, h4, h8, h9, c32, h33, h35, c36, h37, h39, c40]
                  have c41 : ansL X 5 [] = Option.map AV.bool (mandolinelaw08_awake.f) := mandolinelaw08_awake.ok
                  rcases h42 : mandolinelaw08_awake.f with _ | x43
                  · simp only [D, DT, reduceIte, reduceCtorEq, Nat.reduceEqDiff, Nat.reduceAdd, Nat.reduceLT, Nat.reduceLeDiff, Nat.reduceBEq, Int.reduceLE, Int.reduceLT, Int.reduceEq, Int.reduceNeg, c1, h2, h4, h8, h9, c32, h33, h35, c36, h37, h39, c40, c41, h42]
                  · simp only [D, DT, reduceIte, reduceCtorEq, Nat.reduceEqDiff, Nat.reduceAdd, Nat.reduceLT, Nat.reduceLeDiff, Nat.reduceBEq, Int.reduceLE, Int.reduceLT, Int.reduceEq, Int.reduceNeg, c1, h2, h4, h8, h9, c32, h33, h35, c36, h37, h39, c40, c41, h42]
                    try rfl
      · simp only [D, DT, reduceIte, reduceCtorEq, Nat.reduceEqDiff, Nat.reduceAdd, Nat.reduceLT, Nat.reduceLeDiff, Nat.reduceBEq, Int.reduceLE, Int.reduceLT, Int.reduceEq, Int.reduceNeg, c1, h2, h4, h8]
        have c44 : ansL X 5 [] = Option.map AV.bool (mandolinelaw08_awake.f) := mandolinelaw08_awake.ok
        rcases h45 : mandolinelaw08_awake.f with _ | x46
        · simp only [D, DT, reduceIte, reduceCtorEq, Nat.reduceEqDiff, Nat.reduceAdd, Nat.reduceLT, Nat.reduceLeDiff, Nat.reduceBEq, Int.reduceLE, Int.reduceLT, Int.reduceEq, Int.reduceNeg, c1, h2, h4, h8, c44, h45]
        · simp only [D, DT, reduceIte, reduceCtorEq, Nat.reduceEqDiff, Nat.reduceAdd, Nat.reduceLT, Nat.reduceLeDiff, Nat.reduceBEq, Int.reduceLE, Int.reduceLT, Int.reduceEq, Int.reduceNeg, c1, h2, h4, h8, c44, h45]
          try rfl
end Go.Proofs.YtchlkbnjamgihaaDoor
