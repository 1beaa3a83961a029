/-
  Plain functions: stringslite_HasPrefix, strings_HasPrefix, tag_Right, mandolineref14_none, mandolineref05_Right, meta_tagged, meta_within, meta_tenant, meta_key, mandolineref14_Key, mandolineref14_Tenant. Its conditions: none.
-/
import Derived.Test.YtkmefgabcdocpaaDoorNat
namespace Go.Proofs.YtkmefgabcdocpaaDoor
open Go Go.Den
set_option maxRecDepth 100000
set_option linter.unusedSimpArgs false
set_option linter.unusedVariables false
noncomputable def stringslite_HasPrefix.f (a0 : (List UInt8)) (a1 : (List UInt8)) : Option Bool :=
  bif (decide ((a1.length : Int) ≤ (a0.length : Int))) then
    (cut a0 0 (a1.length : Int)).bind fun x3 =>
    some (x3 == a1)
  else
    some false
set_option maxHeartbeats 4000000 in
theorem stringslite_HasPrefix.ok (a0 : (List UInt8)) (a1 : (List UInt8)) : ansL X 72 [(.str a0), (.str a1)] = Option.map AV.bool (stringslite_HasPrefix.f a0 a1) := by
  rw [ansL_run (fd := c72) rfl rfl]
  simp only [D, DT, reduceIte, reduceCtorEq, Nat.reduceEqDiff, Nat.reduceAdd, Nat.reduceLT, Nat.reduceLeDiff, Nat.reduceBEq, Int.reduceLE, Int.reduceLT, Int.reduceEq, Int.reduceNeg, c72, stringslite_HasPrefix.f]
  cases h1 : (decide ((a1.length : Int) ≤ (a0.length : Int)))
  · simp only [D, DT, reduceIte, reduceCtorEq, Nat.reduceEqDiff, Nat.reduceAdd, Nat.reduceLT, Nat.reduceLeDiff, Nat.reduceBEq, Int.reduceLE, Int.reduceLT, Int.reduceEq, Int.reduceNeg, h1]
    try rfl
  · simp only [D, DT, reduceIte, reduceCtorEq, Nat.reduceEqDiff, Nat.reduceAdd, Nat.reduceLT, Nat.reduceLeDiff, Nat.reduceBEq, Int.reduceLE, Int.reduceLT, Int.reduceEq, Int.reduceNeg, h1]
    rcases h2 : cut a0 0 (a1.length : Int) with _ | x3
    · simp only [D, DT, reduceIte, reduceCtorEq, Nat.reduceEqDiff, Nat.reduceAdd, Nat.reduceLT, Nat.reduceLeDiff, Nat.reduceBEq, Int.reduceLE, Int.reduceLT, Int.reduceEq, Int.reduceNeg, h1, h2]
    · simp only [D, DT, reduceIte, reduceCtorEq, Nat.reduceEqDiff, Nat.reduceAdd, Nat.reduceLT, Nat.reduceLeDiff, Nat.reduceBEq, Int.reduceLE, Int.reduceLT, Int.reduceEq, Int.reduceNeg, h1, h2]
      try rfl
noncomputable def strings_HasPrefix.f (a0 : (List UInt8)) (a1 : (List UInt8)) : Option Bool :=
  (stringslite_HasPrefix.f a0 a1).bind fun x3 =>
  some x3
set_option maxHeartbeats 4000000 in
theorem strings_HasPrefix.ok (a0 : (List UInt8)) (a1 : (List UInt8)) : ansL X 48 [(.str a0), (.str a1)] = Option.map AV.bool (strings_HasPrefix.f a0 a1) := by
  rw [ansL_run (fd := c48) rfl rfl]
  simp only [D, DT, reduceIte, reduceCtorEq, Nat.reduceEqDiff, Nat.reduceAdd, Nat.reduceLT, Nat.reduceLeDiff, Nat.reduceBEq, Int.reduceLE, Int.reduceLT, Int.reduceEq, Int.reduceNeg, c48, strings_HasPrefix.f]
  have c1 : ansL X 72 [(.str a0), (.str a1)] = Option.map AV.bool (stringslite_HasPrefix.f a0 a1) := stringslite_HasPrefix.ok a0 a1
  rcases h2 : stringslite_HasPrefix.f a0 a1 with _ | x3
  · simp only [D, DT, reduceIte, reduceCtorEq, Nat.reduceEqDiff, Nat.reduceAdd, Nat.reduceLT, Nat.reduceLeDiff, Nat.reduceBEq, Int.reduceLE, Int.reduceLT, Int.reduceEq, Int.reduceNeg, c1, h2]
  · simp only [D, DT, reduceIte, reduceCtorEq, Nat.reduceEqDiff, Nat.reduceAdd, Nat.reduceLT, Nat.reduceLeDiff, Nat.reduceBEq, Int.reduceLE, Int.reduceLT, Int.reduceEq, Int.reduceNeg, c1, h2]
    try rfl
inductive tag_Right.l0X where
  | x0
  | ret
noncomputable def tag_Right.l0B (a0 : api_Tag) (v8_8 : Int) : Option (Step (Int) tag_Right.l0X) :=
  bif (decide (v8_8 < (a0.Text.length : Int))) then
    (idx a0.Text v8_8).bind fun x19 =>
    bif (decide ((x19.toNat : Int) = 33)) then
      some (.next (IntKind.i64.wrap (v8_8 + 1)))
    else
      bif (decide ((x19.toNat : Int) < 35)) then
        some (.done (.ret))
      else
        bif (decide ((126 : Int) < (x19.toNat : Int))) then
          some (.done (.ret))
        else
          some (.next (IntKind.i64.wrap (v8_8 + 1)))
  else
    some (.done (.x0))
set_option maxHeartbeats 4000000 in
theorem tag_Right.l0_ok {α : Type} {F : Env → Heap → Option α} {K : List Fr} (fin : tag_Right.l0X → Option α) (a0 : api_Tag)
    (hx0 : ∀ (e : Env) (H : Heap), e 1 = (.ptr [1] 1 0 0) → H [1] = (1, some ⟨false, false, 2, [(.agg [(.str a0.Text), (.bool a0.Weak)])]⟩) → outL X [] F K e H 0 = fin (.x0))
    (hret : ∀ (e : Env) (H : Heap), e 2 = (.bool false) → F e H = fin (.ret)) (v8_8 : Int) (e : Env) (H : Heap) (g1_8 : e 1 = (.ptr [1] 1 0 0)) (g7_8 : e 7 = (.int .i64 (a0.Text.length : Int))) (g8_8 : e 8 = (.int .i64 v8_8)) (k1_8 : H [1] = (1, some ⟨false, false, 2, [(.agg [(.str a0.Text), (.bool a0.Weak)])]⟩)) :
    runL X [] F (.c (.loop c28_l0) :: K) e H = (loopL (tag_Right.l0B a0) v8_8).bind fin := by
  refine loop_of (R := fun (v8_8 : Int) (e : Env) (H : Heap) => e 1 = (.ptr [1] 1 0 0) ∧ e 7 = (.int .i64 (a0.Text.length : Int)) ∧ e 8 = (.int .i64 v8_8) ∧ H [1] = (1, some ⟨false, false, 2, [(.agg [(.str a0.Text), (.bool a0.Weak)])]⟩)) fin ?_ ⟨g1_8, g7_8, g8_8, k1_8⟩
  clear k1_8 g8_8 g7_8 g1_8 e H v8_8
  intro n G hn hd s e H hR
  revert hR; revert s; intro v8_8 hR
  obtain ⟨g1_8, g7_8, g8_8, k1_8⟩ := hR
  simp only [D, DT, reduceIte, reduceCtorEq, Nat.reduceEqDiff, Nat.reduceAdd, Nat.reduceLT, Nat.reduceLeDiff, Nat.reduceBEq, Int.reduceLE, Int.reduceLT, Int.reduceEq, Int.reduceNeg, tag_Right.l0B, g1_8, g7_8, g8_8, k1_8, c28_l0]
  cases h17 : (decide (v8_8 < (a0.Text.length : Int)))
  · simp only [D, DT, reduceIte, reduceCtorEq, Nat.reduceEqDiff, Nat.reduceAdd, Nat.reduceLT, Nat.reduceLeDiff, Nat.reduceBEq, Int.reduceLE, Int.reduceLT, Int.reduceEq, Int.reduceNeg, g1_8, g7_8, g8_8, k1_8, c28_l0, h17]
    exact (hx0 _ _ (by first | (simp only [D, DT, reduceIte, reduceCtorEq, Nat.reduceEqDiff, Nat.reduceAdd, Nat.reduceLT, Nat.reduceLeDiff, Nat.reduceBEq, Int.reduceLE, Int.reduceLT, Int.reduceEq, Int.reduceNeg, g1_8, g7_8, g8_8, k1_8, c28_l0, h17] <;> rfl) | rfl) (by first | (simp only [D, DT, reduceIte, reduceCtorEq, Nat.reduceEqDiff, Nat.reduceAdd, Nat.reduceLT, Nat.reduceLeDiff, Nat.reduceBEq, Int.reduceLE, Int.reduceLT, Int.reduceEq, Int.reduceNeg, g1_8, g7_8, g8_8, k1_8, c28_l0, h17] <;> rfl) | rfl)).trans (hd _).symm
  · simp only [D, DT, reduceIte, reduceCtorEq, Nat.reduceEqDiff, Nat.reduceAdd, Nat.reduceLT, Nat.reduceLeDiff, Nat.reduceBEq, Int.reduceLE, Int.reduceLT, Int.reduceEq, Int.reduceNeg, g1_8, g7_8, g8_8, k1_8, c28_l0, h17]
    rcases h18 : idx a0.Text v8_8 with _ | x19
    · simp only [D, DT, reduceIte, reduceCtorEq, Nat.reduceEqDiff, Nat.reduceAdd, Nat.reduceLT, Nat.reduceLeDiff, Nat.reduceBEq, Int.reduceLE, Int.reduceLT, Int.reduceEq, Int.reduceNeg, g1_8, g7_8, g8_8, k1_8, c28_l0, h17, h18]
    · simp only [D, DT, reduceIte, reduceCtorEq, Nat.reduceEqDiff, Nat.reduceAdd, Nat.reduceLT, Nat.reduceLeDiff, Nat.reduceBEq, Int.reduceLE, Int.reduceLT, Int.reduceEq, Int.reduceNeg, g1_8, g7_8, g8_8, k1_8, c28_l0, h17, h18]
      cases h20 : (decide ((x19.toNat : Int) = 33))
      · simp only [D, DT, reduceIte, reduceCtorEq, Nat.reduceEqDiff, Nat.reduceAdd, Nat.reduceLT, Nat.reduceLeDiff, Nat.reduceBEq, Int.reduceLE, Int.reduceLT, Int.reduceEq, Int.reduceNeg, g1_8, g7_8, g8_8, k1_8, c28_l0, h17, h18, h20]
        cases h21 : (decide ((x19.toNat : Int) < 35))
        · simp only [D, DT, reduceIte, reduceCtorEq, Nat.reduceEqDiff, Nat.reduceAdd, Nat.reduceLT, Nat.reduceLeDiff, Nat.reduceBEq, Int.reduceLE, Int.reduceLT, Int.reduceEq, Int.reduceNeg, g1_8, g7_8, g8_8, k1_8, c28_l0, h17, h18, h20, h21]
          cases h22 : (decide ((126 : Int) < (x19.toNat : Int)))
          · simp only [D, DT, reduceIte, reduceCtorEq, Nat.reduceEqDiff, Nat.reduceAdd, Nat.reduceLT, Nat.reduceLeDiff, Nat.reduceBEq, Int.reduceLE, Int.reduceLT, Int.reduceEq, Int.reduceNeg, g1_8, g7_8, g8_8, k1_8, c28_l0, h17, h18, h20, h21, h22]
            exact hn _ _ _ ⟨(by first | (simp only [D, DT, reduceIte, reduceCtorEq, Nat.reduceEqDiff, Nat.reduceAdd, Nat.reduceLT, Nat.reduceLeDiff, Nat.reduceBEq, Int.reduceLE, Int.reduceLT, Int.reduceEq, Int.reduceNeg, g1_8, g7_8, g8_8, k1_8, c28_l0, h17, h18, h20, h21, h22] <;> rfl) | rfl), (by first | (simp only [D, DT, reduceIte, reduceCtorEq, Nat.reduceEqDiff, Nat.reduceAdd, Nat.reduceLT, Nat.reduceLeDiff, Nat.reduceBEq, Int.reduceLE, Int.reduceLT, Int.reduceEq, Int.reduceNeg, g1_8, g7_8, g8_8, k1_8, c28_l0, h17, h18, h20, h21, h22] <;> rfl) | rfl), (by first | (simp only [D, DT, reduceIte, reduceCtorEq, Nat.reduceEqDiff, Nat.reduceAdd, Nat.reduceLT, Nat.reduceLeDiff, Nat.reduceBEq, Int.reduceLE, Int.reduceLT, Int.reduceEq, Int.reduceNeg, g1_8, g7_8, g8_8, k1_8, c28_l0, h17, h18, h20, h21, h22] <;> rfl) | rfl), (by first | (simp only [D, DT, reduceIte, reduceCtorEq, Nat.reduceEqDiff, Nat.reduceAdd, Nat.reduceLT, Nat.reduceLeDiff, Nat.reduceBEq, Int.reduceLE, Int.reduceLT, Int.reduceEq, Int.reduceNeg, g1_8, g7_8, g8_8, k1_8, c28_l0, h17, h18, h20, h21, h22] <;> rfl) | rfl)⟩
          · simp only [D, DT, reduceIte, reduceCtorEq, Nat.reduceEqDiff, Nat.reduceAdd, Nat.reduceLT, Nat.reduceLeDiff, Nat.reduceBEq, Int.reduceLE, Int.reduceLT, Int.reduceEq, Int.reduceNeg, g1_8, g7_8, g8_8, k1_8, c28_l0, h17, h18, h20, h21, h22]
            exact (hret _ _ (by first | (simp only [D, DT, reduceIte, reduceCtorEq, Nat.reduceEqDiff, Nat.reduceAdd, Nat.reduceLT, Nat.reduceLeDiff, Nat.reduceBEq, Int.reduceLE, Int.reduceLT, Int.reduceEq, Int.reduceNeg, g1_8, g7_8, g8_8, k1_8, c28_l0, h17, h18, h20, h21, h22] <;> rfl) | rfl)).trans (hd _).symm
        · simp only [D, DT, reduceIte, reduceCtorEq, Nat.reduceEqDiff, Nat.reduceAdd, Nat.reduceLT, Nat.reduceLeDiff, Nat.reduceBEq, Int.reduceLE, Int.reduceLT, Int.reduceEq, Int.reduceNeg, g1_8, g7_8, g8_8, k1_8, c28_l0, h17, h18, h20, h21]
          exact (hret _ _ (by first | (simp only [D, DT, reduceIte, reduceCtorEq, Nat.reduceEqDiff, Nat.reduceAdd, Nat.reduceLT, Nat.reduceLeDiff, Nat.reduceBEq, Int.reduceLE, Int.reduceLT, Int.reduceEq, Int.reduceNeg, g1_8, g7_8, g8_8, k1_8, c28_l0, h17, h18, h20, h21] <;> rfl) | rfl)).trans (hd _).symm
      · simp only [D, DT, reduceIte, reduceCtorEq, Nat.reduceEqDiff, Nat.reduceAdd, Nat.reduceLT, Nat.reduceLeDiff, Nat.reduceBEq, Int.reduceLE, Int.reduceLT, Int.reduceEq, Int.reduceNeg, g1_8, g7_8, g8_8, k1_8, c28_l0, h17, h18, h20]
        exact hn _ _ _ ⟨(by first | (simp only [D, DT, reduceIte, reduceCtorEq, Nat.reduceEqDiff, Nat.reduceAdd, Nat.reduceLT, Nat.reduceLeDiff, Nat.reduceBEq, Int.reduceLE, Int.reduceLT, Int.reduceEq, Int.reduceNeg, g1_8, g7_8, g8_8, k1_8, c28_l0, h17, h18, h20] <;> rfl) | rfl), (by first | (simp only [D, DT, reduceIte, reduceCtorEq, Nat.reduceEqDiff, Nat.reduceAdd, Nat.reduceLT, Nat.reduceLeDiff, Nat.reduceBEq, Int.reduceLE, Int.reduceLT, Int.reduceEq, Int.reduceNeg, g1_8, g7_8, g8_8, k1_8, c28_l0, h17, h18, h20] <;> rfl) | rfl), (by first | (simp only [D, DT, reduceIte, reduceCtorEq, Nat.reduceEqDiff, Nat.reduceAdd, Nat.reduceLT, Nat.reduceLeDiff, Nat.reduceBEq, Int.reduceLE, Int.reduceLT, Int.reduceEq, Int.reduceNeg, g1_8, g7_8, g8_8, k1_8, c28_l0, h17, h18, h20] <;> rfl) | rfl), (by first | (simp only [D, DT, reduceIte, reduceCtorEq, Nat.reduceEqDiff, Nat.reduceAdd, Nat.reduceLT, Nat.reduceLeDiff, Nat.reduceBEq, Int.reduceLE, Int.reduceLT, Int.reduceEq, Int.reduceNeg, g1_8, g7_8, g8_8, k1_8, c28_l0, h17, h18, h20] <;> rfl) | rfl)⟩
noncomputable def tag_Right.a0 (a0 : api_Tag) : tag_Right.l0X → Option Bool
  | .x0 =>
    bif (decide ((0 : Int) < (a0.Text.length : Int))) then
      some (decide ((a0.Text.length : Int) ≤ 100))
    else
      some false
  | .ret =>
    some false
noncomputable def tag_Right.f (a0 : api_Tag) : Option Bool :=
  (loopL (tag_Right.l0B a0) 0).bind (tag_Right.a0 a0)
set_option maxHeartbeats 4000000 in
theorem tag_Right.ok (a0 : api_Tag) : ansL X 28 [(.agg [(.str a0.Text), (.bool a0.Weak)])] = Option.map AV.bool (tag_Right.f a0) := by
  rw [ansL_run (fd := c28) rfl rfl]
  simp only [D, DT, reduceIte, reduceCtorEq, Nat.reduceEqDiff, Nat.reduceAdd, Nat.reduceLT, Nat.reduceLeDiff, Nat.reduceBEq, Int.reduceLE, Int.reduceLT, Int.reduceEq, Int.reduceNeg, c28, tag_Right.f]
  refine Eq.trans (tag_Right.l0_ok (fun x => Option.map AV.bool (tag_Right.a0 a0 x)) a0 ?_ ?_ 0 _ _ (by first | (simp only [D, DT, reduceIte, reduceCtorEq, Nat.reduceEqDiff, Nat.reduceAdd, Nat.reduceLT, Nat.reduceLeDiff, Nat.reduceBEq, Int.reduceLE, Int.reduceLT, Int.reduceEq, Int.reduceNeg] <;> rfl) | rfl) (by first | (simp only [D, DT, reduceIte, reduceCtorEq, Nat.reduceEqDiff, Nat.reduceAdd, Nat.reduceLT, Nat.reduceLeDiff, Nat.reduceBEq, Int.reduceLE, Int.reduceLT, Int.reduceEq, Int.reduceNeg] <;> rfl) | rfl) (by first | (simp only [D, DT, reduceIte, reduceCtorEq, Nat.reduceEqDiff, Nat.reduceAdd, Nat.reduceLT, Nat.reduceLeDiff, Nat.reduceBEq, Int.reduceLE, Int.reduceLT, Int.reduceEq, Int.reduceNeg] <;> rfl) | rfl) (by first | (simp only [D, DT, reduceIte, reduceCtorEq, Nat.reduceEqDiff, Nat.reduceAdd, Nat.reduceLT, Nat.reduceLeDiff, Nat.reduceBEq, Int.reduceLE, Int.reduceLT, Int.reduceEq, Int.reduceNeg] <;> rfl) | rfl)) ?_
  · intro e_23 H_23 g1_15_23 k1_15_23
    simp only [D, DT, reduceIte, reduceCtorEq, Nat.reduceEqDiff, Nat.reduceAdd, Nat.reduceLT, Nat.reduceLeDiff, Nat.reduceBEq, Int.reduceLE, Int.reduceLT, Int.reduceEq, Int.reduceNeg, tag_Right.a0, g1_15_23, k1_15_23]
    cases h24 : (decide ((0 : Int) < (a0.Text.length : Int)))
    · simp only [D, DT, reduceIte, reduceCtorEq, Nat.reduceEqDiff, Nat.reduceAdd, Nat.reduceLT, Nat.reduceLeDiff, Nat.reduceBEq, Int.reduceLE, Int.reduceLT, Int.reduceEq, Int.reduceNeg, g1_15_23, k1_15_23, h24]
      try rfl
    · simp only [D, DT, reduceIte, reduceCtorEq, Nat.reduceEqDiff, Nat.reduceAdd, Nat.reduceLT, Nat.reduceLeDiff, Nat.reduceBEq, Int.reduceLE, Int.reduceLT, Int.reduceEq, Int.reduceNeg, g1_15_23, k1_15_23, h24]
      try rfl
  · intro e_25 H_25 g2_16_25
    simp only [D, DT, reduceIte, reduceCtorEq, Nat.reduceEqDiff, Nat.reduceAdd, Nat.reduceLT, Nat.reduceLeDiff, Nat.reduceBEq, Int.reduceLE, Int.reduceLT, Int.reduceEq, Int.reduceNeg, tag_Right.a0, g2_16_25]
    try rfl
  exact mb _ _ _
noncomputable def mandolineref14_none.f (a0 : api_Tag) : Option Bool :=
  bif (a0.Text == []) then
    some (!a0.Weak)
  else
    some false
set_option maxHeartbeats 4000000 in
theorem mandolineref14_none.ok (a0 : api_Tag) : ansL X 24 [(.agg [(.str a0.Text), (.bool a0.Weak)])] = Option.map AV.bool (mandolineref14_none.f a0) := by
  rw [ansL_run (fd := c24) rfl rfl]
  simp only [D, DT, reduceIte, reduceCtorEq, Nat.reduceEqDiff, Nat.reduceAdd, Nat.reduceLT, Nat.reduceLeDiff, Nat.reduceBEq, Int.reduceLE, Int.reduceLT, Int.reduceEq, Int.reduceNeg, c24, mandolineref14_none.f]
  cases h1 : (a0.Text == [])
  · simp only [D, DT, reduceIte, reduceCtorEq, Nat.reduceEqDiff, Nat.reduceAdd, Nat.reduceLT, Nat.reduceLeDiff, Nat.reduceBEq, Int.reduceLE, Int.reduceLT, Int.reduceEq, Int.reduceNeg, h1]
    try rfl
  · simp only [D, DT, reduceIte, reduceCtorEq, Nat.reduceEqDiff, Nat.reduceAdd, Nat.reduceLT, Nat.reduceLeDiff, Nat.reduceBEq, Int.reduceLE, Int.reduceLT, Int.reduceEq, Int.reduceNeg, h1]
    try rfl
inductive mandolineref05_Right.l0X where
  | x0
  | ret
noncomputable def mandolineref05_Right.l0B (a0 : api_Tag) (v10_3 : Int) : Option (Step (Int) mandolineref05_Right.l0X) :=
  bif (decide (v10_3 < (a0.Text.length : Int))) then
    (idx a0.Text v10_3).bind fun x21 =>
    bif (decide ((x21.toNat : Int) < 33)) then
      some (.done (.ret))
    else
      bif (decide ((x21.toNat : Int) = 34)) then
        some (.done (.ret))
      else
        bif (decide ((126 : Int) < (x21.toNat : Int))) then
          some (.done (.ret))
        else
          some (.next (IntKind.i64.wrap (v10_3 + 1)))
  else
    some (.done (.x0))
set_option maxHeartbeats 4000000 in
theorem mandolineref05_Right.l0_ok {α : Type} {F : Env → Heap → Option α} {K : List Fr} (fin : mandolineref05_Right.l0X → Option α) (a0 : api_Tag)
    (hx0 : ∀ (e : Env) (H : Heap), outL X [] F K e H 0 = fin (.x0))
    (hret : ∀ (e : Env) (H : Heap), e 2 = (.bool false) → F e H = fin (.ret)) (v10_3 : Int) (e : Env) (H : Heap) (g1_10 : e 1 = (.ptr [1] 1 0 0)) (g3_10 : e 3 = (.int .i64 v10_3)) (k1_10 : H [1] = (1, some ⟨false, false, 2, [(.agg [(.str a0.Text), (.bool a0.Weak)])]⟩)) :
    runL X [] F (.c (.loop c25_l0) :: K) e H = (loopL (mandolineref05_Right.l0B a0) v10_3).bind fin := by
  refine loop_of (R := fun (v10_3 : Int) (e : Env) (H : Heap) => e 1 = (.ptr [1] 1 0 0) ∧ e 3 = (.int .i64 v10_3) ∧ H [1] = (1, some ⟨false, false, 2, [(.agg [(.str a0.Text), (.bool a0.Weak)])]⟩)) fin ?_ ⟨g1_10, g3_10, k1_10⟩
  clear k1_10 g3_10 g1_10 e H v10_3
  intro n G hn hd s e H hR
  revert hR; revert s; intro v10_3 hR
  obtain ⟨g1_10, g3_10, k1_10⟩ := hR
  simp only [D, DT, reduceIte, reduceCtorEq, Nat.reduceEqDiff, Nat.reduceAdd, Nat.reduceLT, Nat.reduceLeDiff, Nat.reduceBEq, Int.reduceLE, Int.reduceLT, Int.reduceEq, Int.reduceNeg, mandolineref05_Right.l0B, g1_10, g3_10, k1_10, c25_l0]
  cases h19 : (decide (v10_3 < (a0.Text.length : Int)))
  · simp only [D, DT, reduceIte, reduceCtorEq, Nat.reduceEqDiff, Nat.reduceAdd, Nat.reduceLT, Nat.reduceLeDiff, Nat.reduceBEq, Int.reduceLE, Int.reduceLT, Int.reduceEq, Int.reduceNeg, g1_10, g3_10, k1_10, c25_l0, h19]
    exact (hx0 _ _).trans (hd _).symm
  · simp only [D, DT, reduceIte, reduceCtorEq, Nat.reduceEqDiff, Nat.reduceAdd, Nat.reduceLT, Nat.reduceLeDiff, Nat.reduceBEq, Int.reduceLE, Int.reduceLT, Int.reduceEq, Int.reduceNeg, g1_10, g3_10, k1_10, c25_l0, h19]
    rcases h20 : idx a0.Text v10_3 with _ | x21
    · simp only [D, DT, reduceIte, reduceCtorEq, Nat.reduceEqDiff, Nat.reduceAdd, Nat.reduceLT, Nat.reduceLeDiff, Nat.reduceBEq, Int.reduceLE, Int.reduceLT, Int.reduceEq, Int.reduceNeg, g1_10, g3_10, k1_10, c25_l0, h19, h20]
    · simp only [D, DT, reduceIte, reduceCtorEq, Nat.reduceEqDiff, Nat.reduceAdd, Nat.reduceLT, Nat.reduceLeDiff, Nat.reduceBEq, Int.reduceLE, Int.reduceLT, Int.reduceEq, Int.reduceNeg, g1_10, g3_10, k1_10, c25_l0, h19, h20]
      cases h22 : (decide ((x21.toNat : Int) < 33))
      · simp only [D, DT, reduceIte, reduceCtorEq, Nat.reduceEqDiff, Nat.reduceAdd, Nat.reduceLT, Nat.reduceLeDiff, Nat.reduceBEq, Int.reduceLE, Int.reduceLT, Int.reduceEq, Int.reduceNeg, g1_10, g3_10, k1_10, c25_l0, h19, h20, h22]
        cases h23 : (decide ((x21.toNat : Int) = 34))
        · simp only [D, DT, reduceIte, reduceCtorEq, Nat.reduceEqDiff, Nat.reduceAdd, Nat.reduceLT, Nat.reduceLeDiff, Nat.reduceBEq, Int.reduceLE, Int.reduceLT, Int.reduceEq, Int.reduceNeg, g1_10, g3_10, k1_10, c25_l0, h19, h20, h22, h23]
          cases h24 : (decide ((126 : Int) < (x21.toNat : Int)))
          · simp only [D, DT, reduceIte, reduceCtorEq, Nat.reduceEqDiff, Nat.reduceAdd, Nat.reduceLT, Nat.reduceLeDiff, Nat.reduceBEq, Int.reduceLE, Int.reduceLT, Int.reduceEq, Int.reduceNeg, g1_10, g3_10, k1_10, c25_l0, h19, h20, h22, h23, h24]
            exact hn _ _ _ ⟨(by first | (simp only [D, DT, reduceIte, reduceCtorEq, Nat.reduceEqDiff, Nat.reduceAdd, Nat.reduceLT, Nat.reduceLeDiff, Nat.reduceBEq, Int.reduceLE, Int.reduceLT, Int.reduceEq, Int.reduceNeg, g1_10, g3_10, k1_10, c25_l0, h19, h20, h22, h23, h24] <;> rfl) | rfl), (by first | (simp only [D, DT, reduceIte, reduceCtorEq, Nat.reduceEqDiff, Nat.reduceAdd, Nat.reduceLT, Nat.reduceLeDiff, Nat.reduceBEq, Int.reduceLE, Int.reduceLT, Int.reduceEq, Int.reduceNeg, g1_10, g3_10, k1_10, c25_l0, h19, h20, h22, h23, h24] <;> rfl) | rfl), (by first | (simp only [D, DT, reduceIte, reduceCtorEq, Nat.reduceEqDiff, Nat.reduceAdd, Nat.reduceLT, Nat.reduceLeDiff, Nat.reduceBEq, Int.reduceLE, Int.reduceLT, Int.reduceEq, Int.reduceNeg, g1_10, g3_10, k1_10, c25_l0, h19, h20, h22, h23, h24] <;> rfl) | rfl)⟩
          · simp only [D, DT, reduceIte, reduceCtorEq, Nat.reduceEqDiff, Nat.reduceAdd, Nat.reduceLT, Nat.reduceLeDiff, Nat.reduceBEq, Int.reduceLE, Int.reduceLT, Int.reduceEq, Int.reduceNeg, g1_10, g3_10, k1_10, c25_l0, h19, h20, h22, h23, h24]
            exact (hret _ _ (by first | (simp only [D, DT, reduceIte, reduceCtorEq, Nat.reduceEqDiff, Nat.reduceAdd, Nat.reduceLT, Nat.reduceLeDiff, Nat.reduceBEq, Int.reduceLE, Int.reduceLT, Int.reduceEq, Int.reduceNeg, g1_10, g3_10, k1_10, c25_l0, h19, h20, h22, h23, h24] <;> rfl) | rfl)).trans (hd _).symm
        · simp only [D, DT, reduceIte, reduceCtorEq, Nat.reduceEqDiff, Nat.reduceAdd, Nat.reduceLT, Nat.reduceLeDiff, Nat.reduceBEq, Int.reduceLE, Int.reduceLT, Int.reduceEq, Int.reduceNeg, g1_10, g3_10, k1_10, c25_l0, h19, h20, h22, h23]
          exact (hret _ _ (by first | (simp only [D, DT, reduceIte, reduceCtorEq, Nat.reduceEqDiff, Nat.reduceAdd, Nat.reduceLT, Nat.reduceLeDiff, Nat.reduceBEq, Int.reduceLE, Int.reduceLT, Int.reduceEq, Int.reduceNeg, g1_10, g3_10, k1_10, c25_l0, h19, h20, h22, h23] <;> rfl) | rfl)).trans (hd _).symm
      · simp only [D, DT, reduceIte, reduceCtorEq, Nat.reduceEqDiff, Nat.reduceAdd, Nat.reduceLT, Nat.reduceLeDiff, Nat.reduceBEq, Int.reduceLE, Int.reduceLT, Int.reduceEq, Int.reduceNeg, g1_10, g3_10, k1_10, c25_l0, h19, h20, h22]
        exact (hret _ _ (by first | (simp only [D, DT, reduceIte, reduceCtorEq, Nat.reduceEqDiff, Nat.reduceAdd, Nat.reduceLT, Nat.reduceLeDiff, Nat.reduceBEq, Int.reduceLE, Int.reduceLT, Int.reduceEq, Int.reduceNeg, g1_10, g3_10, k1_10, c25_l0, h19, h20, h22] <;> rfl) | rfl)).trans (hd _).symm
noncomputable def mandolineref05_Right.a0 : mandolineref05_Right.l0X → Option Bool
  | .x0 =>
    some true
  | .ret =>
    some false
noncomputable def mandolineref05_Right.f (a0 : api_Tag) : Option Bool :=
  bif (decide ((a0.Text.length : Int) < 1)) then
    some false
  else
    bif (decide ((100 : Int) < (a0.Text.length : Int))) then
      some false
    else
      (loopL (mandolineref05_Right.l0B a0) 0).bind (mandolineref05_Right.a0)
set_option maxHeartbeats 4000000 in
theorem mandolineref05_Right.ok (a0 : api_Tag) : ansL X 25 [(.agg [(.str a0.Text), (.bool a0.Weak)])] = Option.map AV.bool (mandolineref05_Right.f a0) := by
  rw [ansL_run (fd := c25) rfl rfl]
  simp only [D, DT, reduceIte, reduceCtorEq, Nat.reduceEqDiff, Nat.reduceAdd, Nat.reduceLT, Nat.reduceLeDiff, Nat.reduceBEq, Int.reduceLE, Int.reduceLT, Int.reduceEq, Int.reduceNeg, c25, mandolineref05_Right.f]
  cases h1 : (decide ((a0.Text.length : Int) < 1))
  · simp only [D, DT, reduceIte, reduceCtorEq, Nat.reduceEqDiff, Nat.reduceAdd, Nat.reduceLT, Nat.reduceLeDiff, Nat.reduceBEq, Int.reduceLE, Int.reduceLT, Int.reduceEq, Int.reduceNeg, h1]
    cases h2 : (decide ((100 : Int) < (a0.Text.length : Int)))
    · simp only [D, DT, reduceIte, reduceCtorEq, Nat.reduceEqDiff, Nat.reduceAdd, Nat.reduceLT, Nat.reduceLeDiff, Nat.reduceBEq, Int.reduceLE, Int.reduceLT, Int.reduceEq, Int.reduceNeg, h1, h2]
      refine Eq.trans (mandolineref05_Right.l0_ok (fun x => Option.map AV.bool (mandolineref05_Right.a0 x)) a0 ?_ ?_ 0 _ _ (by first | (simp only [D, DT, reduceIte, reduceCtorEq, Nat.reduceEqDiff, Nat.reduceAdd, Nat.reduceLT, Nat.reduceLeDiff, Nat.reduceBEq, Int.reduceLE, Int.reduceLT, Int.reduceEq, Int.reduceNeg, h1, h2] <;> rfl) | rfl) (by first | (simp only [D, DT, reduceIte, reduceCtorEq, Nat.reduceEqDiff, Nat.reduceAdd, Nat.reduceLT, Nat.reduceLeDiff, Nat.reduceBEq, Int.reduceLE, Int.reduceLT, Int.reduceEq, Int.reduceNeg, h1, h2] <;> rfl) | rfl) (by first | (simp only [D, DT, reduceIte, reduceCtorEq, Nat.reduceEqDiff, Nat.reduceAdd, Nat.reduceLT, Nat.reduceLeDiff, Nat.reduceBEq, Int.reduceLE, Int.reduceLT, Int.reduceEq, Int.reduceNeg, h1, h2] <;> rfl) | rfl)) ?_
      · intro e_25 H_25
        simp only [D, DT, reduceIte, reduceCtorEq, Nat.reduceEqDiff, Nat.reduceAdd, Nat.reduceLT, Nat.reduceLeDiff, Nat.reduceBEq, Int.reduceLE, Int.reduceLT, Int.reduceEq, Int.reduceNeg, mandolineref05_Right.a0, h1, h2]
        try rfl
      · intro e_26 H_26 g2_18_26
        simp only [D, DT, reduceIte, reduceCtorEq, Nat.reduceEqDiff, Nat.reduceAdd, Nat.reduceLT, Nat.reduceLeDiff, Nat.reduceBEq, Int.reduceLE, Int.reduceLT, Int.reduceEq, Int.reduceNeg, mandolineref05_Right.a0, h1, h2, g2_18_26]
        try rfl
      exact mb _ _ _
    · simp only [D, DT, reduceIte, reduceCtorEq, Nat.reduceEqDiff, Nat.reduceAdd, Nat.reduceLT, Nat.reduceLeDiff, Nat.reduceBEq, Int.reduceLE, Int.reduceLT, Int.reduceEq, Int.reduceNeg, h1, h2]
      try rfl
  · simp only [D, DT, reduceIte, reduceCtorEq, Nat.reduceEqDiff, Nat.reduceAdd, Nat.reduceLT, Nat.reduceLeDiff, Nat.reduceBEq, Int.reduceLE, Int.reduceLT, Int.reduceEq, Int.reduceNeg, h1]
    try rfl
inductive meta_tagged.l0X where
  | x0
  | ret (v13_6 : Int)
noncomputable def meta_tagged.l0B (a0 : api_Tag) (v9_h10_0_1 : Int) : Option (Step (Int) meta_tagged.l0X) :=
  bif (decide (v9_h10_0_1.toNat < a0.Text.length)) then
    bif (decide ((126 : Int) < ((runeAt a0.Text v9_h10_0_1.toNat).1 : Int))) then
      some (.done (.ret v9_h10_0_1))
    else
      some (.next (v9_h10_0_1 + ((runeAt a0.Text v9_h10_0_1.toNat).2 : Int)))
  else
    some (.done (.x0))
set_option maxHeartbeats 4000000 in
theorem meta_tagged.l0_ok {α : Type} {F : Env → Heap → Option α} {K : List Fr} (fin : meta_tagged.l0X → Option α) (a0 : api_Tag)
    (hx0 : ∀ (e : Env) (H : Heap), outL X [] F K e H 0 = fin (.x0))
    (hret : ∀ (v13_6 : Int) (e : Env) (H : Heap), e 6 = (.int .i64 v13_6) → F e H = fin (.ret v13_6)) (v9_h10_0_1 : Int) (e : Env) (H : Heap) (g1_9 : e 1 = (.fn 46 [])) (g2_9 : e 2 = (.bool true)) (g10_9 : e 10 = (.ptr [10] 1 1 0)) (k10_9 : H [10] = (1, some ⟨false, true, 0, [(.tup [(.str a0.Text), (.int .i64 v9_h10_0_1)])]⟩)) :
    runL X [] F (.c (.loop c71_l0) :: K) e H = (loopL (meta_tagged.l0B a0) v9_h10_0_1).bind fin := by
  refine loop_of (R := fun (v9_h10_0_1 : Int) (e : Env) (H : Heap) => e 1 = (.fn 46 []) ∧ e 2 = (.bool true) ∧ e 10 = (.ptr [10] 1 1 0) ∧ H [10] = (1, some ⟨false, true, 0, [(.tup [(.str a0.Text), (.int .i64 v9_h10_0_1)])]⟩)) fin ?_ ⟨g1_9, g2_9, g10_9, k10_9⟩
  clear k10_9 g10_9 g2_9 g1_9 e H v9_h10_0_1
  intro n G hn hd s e H hR
  revert hR; revert s; intro v9_h10_0_1 hR
  obtain ⟨g1_9, g2_9, g10_9, k10_9⟩ := hR
  simp only [D, DT, reduceIte, reduceCtorEq, Nat.reduceEqDiff, Nat.reduceAdd, Nat.reduceLT, Nat.reduceLeDiff, Nat.reduceBEq, Int.reduceLE, Int.reduceLT, Int.reduceEq, Int.reduceNeg, meta_tagged.l0B, g1_9, g2_9, g10_9, k10_9, c71_l0]
  cases h14 : (decide (v9_h10_0_1.toNat < a0.Text.length))
  · simp only [D, DT, reduceIte, reduceCtorEq, Nat.reduceEqDiff, Nat.reduceAdd, Nat.reduceLT, Nat.reduceLeDiff, Nat.reduceBEq, Int.reduceLE, Int.reduceLT, Int.reduceEq, Int.reduceNeg, g1_9, g2_9, g10_9, k10_9, c71_l0, h14]
    exact (hx0 _ _).trans (hd _).symm
  · simp only [D, DT, reduceIte, reduceCtorEq, Nat.reduceEqDiff, Nat.reduceAdd, Nat.reduceLT, Nat.reduceLeDiff, Nat.reduceBEq, Int.reduceLE, Int.reduceLT, Int.reduceEq, Int.reduceNeg, g1_9, g2_9, g10_9, k10_9, c71_l0, h14]
    rw [ans_in (fd := c46) rfl rfl]
    simp only [D, DT, reduceIte, reduceCtorEq, Nat.reduceEqDiff, Nat.reduceAdd, Nat.reduceLT, Nat.reduceLeDiff, Nat.reduceBEq, Int.reduceLE, Int.reduceLT, Int.reduceEq, Int.reduceNeg, c46, g1_9, g2_9, g10_9, k10_9, c71_l0, h14]
    cases h15 : (decide ((126 : Int) < ((runeAt a0.Text v9_h10_0_1.toNat).1 : Int)))
    · simp only [D, DT, reduceIte, reduceCtorEq, Nat.reduceEqDiff, Nat.reduceAdd, Nat.reduceLT, Nat.reduceLeDiff, Nat.reduceBEq, Int.reduceLE, Int.reduceLT, Int.reduceEq, Int.reduceNeg, g1_9, g2_9, g10_9, k10_9, c71_l0, h14, h15]
      exact hn _ _ _ ⟨(by first | (simp only [D, DT, reduceIte, reduceCtorEq, Nat.reduceEqDiff, Nat.reduceAdd, Nat.reduceLT, Nat.reduceLeDiff, Nat.reduceBEq, Int.reduceLE, Int.reduceLT, Int.reduceEq, Int.reduceNeg, g1_9, g2_9, g10_9, k10_9, c71_l0, h14, h15] <;> rfl) | rfl), (by first | (simp only [D, DT, reduceIte, reduceCtorEq, Nat.reduceEqDiff, Nat.reduceAdd, Nat.reduceLT, Nat.reduceLeDiff, Nat.reduceBEq, Int.reduceLE, Int.reduceLT, Int.reduceEq, Int.reduceNeg, g1_9, g2_9, g10_9, k10_9, c71_l0, h14, h15] <;> rfl) | rfl), (by first | (simp only [D, DT, reduceIte, reduceCtorEq, Nat.reduceEqDiff, Nat.reduceAdd, Nat.reduceLT, Nat.reduceLeDiff, Nat.reduceBEq, Int.reduceLE, Int.reduceLT, Int.reduceEq, Int.reduceNeg, g1_9, g2_9, g10_9, k10_9, c71_l0, h14, h15] <;> rfl) | rfl), (by first | (simp only [D, DT, reduceIte, reduceCtorEq, Nat.reduceEqDiff, Nat.reduceAdd, Nat.reduceLT, Nat.reduceLeDiff, Nat.reduceBEq, Int.reduceLE, Int.reduceLT, Int.reduceEq, Int.reduceNeg, g1_9, g2_9, g10_9, k10_9, c71_l0, h14, h15] <;> rfl) | rfl)⟩
    · simp only [D, DT, reduceIte, reduceCtorEq, Nat.reduceEqDiff, Nat.reduceAdd, Nat.reduceLT, Nat.reduceLeDiff, Nat.reduceBEq, Int.reduceLE, Int.reduceLT, Int.reduceEq, Int.reduceNeg, g1_9, g2_9, g10_9, k10_9, c71_l0, h14, h15]
      exact (hret v9_h10_0_1 _ _ (by first | (simp only [D, DT, reduceIte, reduceCtorEq, Nat.reduceEqDiff, Nat.reduceAdd, Nat.reduceLT, Nat.reduceLeDiff, Nat.reduceBEq, Int.reduceLE, Int.reduceLT, Int.reduceEq, Int.reduceNeg, g1_9, g2_9, g10_9, k10_9, c71_l0, h14, h15] <;> rfl) | rfl)).trans (hd _).symm
noncomputable def meta_tagged.a0 : meta_tagged.l0X → Option Bool
  | .x0 =>
    some true
  | .ret v13_6 =>
    some (decide (v13_6 < 0))
noncomputable def meta_tagged.f (a0 : api_Tag) : Option Bool :=
  bif ((a0.Text == []) && (!a0.Weak)) then
    some true
  else
    (tag_Right.f a0).bind fun x4 =>
    bif x4 then
      (loopL (meta_tagged.l0B a0) 0).bind (meta_tagged.a0)
    else
      some false
set_option maxHeartbeats 4000000 in
theorem meta_tagged.ok (a0 : api_Tag) : ansL X 20 [(.agg [(.str a0.Text), (.bool a0.Weak)])] = Option.map AV.bool (meta_tagged.f a0) := by
  rw [ansL_run (fd := c20) rfl rfl]
  simp only [D, DT, reduceIte, reduceCtorEq, Nat.reduceEqDiff, Nat.reduceAdd, Nat.reduceLT, Nat.reduceLeDiff, Nat.reduceBEq, Int.reduceLE, Int.reduceLT, Int.reduceEq, Int.reduceNeg, c20, meta_tagged.f]
  cases h1 : ((a0.Text == []) && (!a0.Weak))
  · simp only [D, DT, reduceIte, reduceCtorEq, Nat.reduceEqDiff, Nat.reduceAdd, Nat.reduceLT, Nat.reduceLeDiff, Nat.reduceBEq, Int.reduceLE, Int.reduceLT, Int.reduceEq, Int.reduceNeg, h1]
    have c2 : ansL X 28 [(.agg [(.str a0.Text), (.bool a0.Weak)])] = Option.map AV.bool (tag_Right.f a0) := tag_Right.ok a0
    rcases h3 : tag_Right.f a0 with _ | x4
    · simp only [D, DT, reduceIte, reduceCtorEq, Nat.reduceEqDiff, Nat.reduceAdd, Nat.reduceLT, Nat.reduceLeDiff, Nat.reduceBEq, Int.reduceLE, Int.reduceLT, Int.reduceEq, Int.reduceNeg, h1, c2, h3]
    · simp only [D, DT, reduceIte, reduceCtorEq, Nat.reduceEqDiff, Nat.reduceAdd, Nat.reduceLT, Nat.reduceLeDiff, Nat.reduceBEq, Int.reduceLE, Int.reduceLT, Int.reduceEq, Int.reduceNeg, h1, c2, h3]
      cases h5 : x4
      · simp only [D, DT, reduceIte, reduceCtorEq, Nat.reduceEqDiff, Nat.reduceAdd, Nat.reduceLT, Nat.reduceLeDiff, Nat.reduceBEq, Int.reduceLE, Int.reduceLT, Int.reduceEq, Int.reduceNeg, h1, c2, h3, h5]
        try rfl
      · simp only [D, DT, reduceIte, reduceCtorEq, Nat.reduceEqDiff, Nat.reduceAdd, Nat.reduceLT, Nat.reduceLeDiff, Nat.reduceBEq, Int.reduceLE, Int.reduceLT, Int.reduceEq, Int.reduceNeg, h1, c2, h3, h5]
        rw [ans_in (fd := c45) rfl rfl]
        simp only [D, DT, reduceIte, reduceCtorEq, Nat.reduceEqDiff, Nat.reduceAdd, Nat.reduceLT, Nat.reduceLeDiff, Nat.reduceBEq, Int.reduceLE, Int.reduceLT, Int.reduceEq, Int.reduceNeg, c45, h1, c2, h3, h5]
        rw [ans_in (fd := c71) rfl rfl]
        simp only [D, DT, reduceIte, reduceCtorEq, Nat.reduceEqDiff, Nat.reduceAdd, Nat.reduceLT, Nat.reduceLeDiff, Nat.reduceBEq, Int.reduceLE, Int.reduceLT, Int.reduceEq, Int.reduceNeg, c71, h1, c2, h3, h5]
        refine Eq.trans (meta_tagged.l0_ok (fun x => Option.map AV.bool (meta_tagged.a0 x)) a0 ?_ ?_ 0 _ _ (by first | (simp only [D, DT, reduceIte, reduceCtorEq, Nat.reduceEqDiff, Nat.reduceAdd, Nat.reduceLT, Nat.reduceLeDiff, Nat.reduceBEq, Int.reduceLE, Int.reduceLT, Int.reduceEq, Int.reduceNeg, h1, c2, h3, h5] <;> rfl) | rfl) (by first | (simp only [D, DT, reduceIte, reduceCtorEq, Nat.reduceEqDiff, Nat.reduceAdd, Nat.reduceLT, Nat.reduceLeDiff, Nat.reduceBEq, Int.reduceLE, Int.reduceLT, Int.reduceEq, Int.reduceNeg, h1, c2, h3, h5] <;> rfl) | rfl) (by first | (simp only [D, DT, reduceIte, reduceCtorEq, Nat.reduceEqDiff, Nat.reduceAdd, Nat.reduceLT, Nat.reduceLeDiff, Nat.reduceBEq, Int.reduceLE, Int.reduceLT, Int.reduceEq, Int.reduceNeg, h1, c2, h3, h5] <;> rfl) | rfl) (by first | (simp only [D, DT, reduceIte, reduceCtorEq, Nat.reduceEqDiff, Nat.reduceAdd, Nat.reduceLT, Nat.reduceLeDiff, Nat.reduceBEq, Int.reduceLE, Int.reduceLT, Int.reduceEq, Int.reduceNeg, h1, c2, h3, h5] <;> rfl) | rfl)) ?_
        · intro e_16 H_16
          simp only [D, DT, reduceIte, reduceCtorEq, Nat.reduceEqDiff, Nat.reduceAdd, Nat.reduceLT, Nat.reduceLeDiff, Nat.reduceBEq, Int.reduceLE, Int.reduceLT, Int.reduceEq, Int.reduceNeg, meta_tagged.a0, h1, c2, h3, h5]
          try rfl
        · intro v13_6 e_17 H_17 g6_13_17
          simp only [D, DT, reduceIte, reduceCtorEq, Nat.reduceEqDiff, Nat.reduceAdd, Nat.reduceLT, Nat.reduceLeDiff, Nat.reduceBEq, Int.reduceLE, Int.reduceLT, Int.reduceEq, Int.reduceNeg, meta_tagged.a0, h1, c2, h3, h5, g6_13_17]
          try rfl
        exact mb _ _ _
  · simp only [D, DT, reduceIte, reduceCtorEq, Nat.reduceEqDiff, Nat.reduceAdd, Nat.reduceLT, Nat.reduceLeDiff, Nat.reduceBEq, Int.reduceLE, Int.reduceLT, Int.reduceEq, Int.reduceNeg, h1]
    try rfl
noncomputable def meta_within.f (a0 : Int) (a1 : Int) : Option Bool :=
  bif (decide (a1 ≤ a0)) then
    some (decide (a0 ≤ 1099511627776))
  else
    some false
set_option maxHeartbeats 4000000 in
theorem meta_within.ok (a0 : Int) (a1 : Int) : ansL X 21 [(.int .i64 a0), (.int .i64 a1)] = Option.map AV.bool (meta_within.f a0 a1) := by
  rw [ansL_run (fd := c21) rfl rfl]
  simp only [D, DT, reduceIte, reduceCtorEq, Nat.reduceEqDiff, Nat.reduceAdd, Nat.reduceLT, Nat.reduceLeDiff, Nat.reduceBEq, Int.reduceLE, Int.reduceLT, Int.reduceEq, Int.reduceNeg, c21, meta_within.f]
  cases h1 : (decide (a1 ≤ a0))
  · simp only [D, DT, reduceIte, reduceCtorEq, Nat.reduceEqDiff, Nat.reduceAdd, Nat.reduceLT, Nat.reduceLeDiff, Nat.reduceBEq, Int.reduceLE, Int.reduceLT, Int.reduceEq, Int.reduceNeg, h1]
    try rfl
  · simp only [D, DT, reduceIte, reduceCtorEq, Nat.reduceEqDiff, Nat.reduceAdd, Nat.reduceLT, Nat.reduceLeDiff, Nat.reduceBEq, Int.reduceLE, Int.reduceLT, Int.reduceEq, Int.reduceNeg, h1]
    try rfl
inductive meta_tenant.l0X where
  | x0
  | ret (v35_6 : Int)
noncomputable def meta_tenant.l0B (a0 : (List UInt8)) (v18_h10_0_1 : Int) : Option (Step (Int) meta_tenant.l0X) :=
  bif (decide (v18_h10_0_1.toNat < a0.length)) then
    bif (decide ((97 : Int) ≤ (IntKind.i32.wrap (((BitVec.ofInt IntKind.i32.bits ((runeAt a0 v18_h10_0_1.toNat).1 : Int) ||| BitVec.ofInt IntKind.i32.bits 32).toNat : Int))))) then
      bif (decide ((IntKind.i32.wrap (((BitVec.ofInt IntKind.i32.bits ((runeAt a0 v18_h10_0_1.toNat).1 : Int) ||| BitVec.ofInt IntKind.i32.bits 32).toNat : Int))) ≤ 122)) then
        some (.next (v18_h10_0_1 + ((runeAt a0 v18_h10_0_1.toNat).2 : Int)))
      else
        bif (decide ((48 : Int) ≤ ((runeAt a0 v18_h10_0_1.toNat).1 : Int))) then
          bif (decide (((runeAt a0 v18_h10_0_1.toNat).1 : Int) ≤ 57)) then
            some (.next (v18_h10_0_1 + ((runeAt a0 v18_h10_0_1.toNat).2 : Int)))
          else
            bif (decide (((runeAt a0 v18_h10_0_1.toNat).1 : Int) = 45)) then
              some (.next (v18_h10_0_1 + ((runeAt a0 v18_h10_0_1.toNat).2 : Int)))
            else
              bif (decide (((runeAt a0 v18_h10_0_1.toNat).1 : Int) = 95)) then
                some (.next (v18_h10_0_1 + ((runeAt a0 v18_h10_0_1.toNat).2 : Int)))
              else
                some (.done (.ret v18_h10_0_1))
        else
          bif (decide (((runeAt a0 v18_h10_0_1.toNat).1 : Int) = 45)) then
            some (.next (v18_h10_0_1 + ((runeAt a0 v18_h10_0_1.toNat).2 : Int)))
          else
            bif (decide (((runeAt a0 v18_h10_0_1.toNat).1 : Int) = 95)) then
              some (.next (v18_h10_0_1 + ((runeAt a0 v18_h10_0_1.toNat).2 : Int)))
            else
              some (.done (.ret v18_h10_0_1))
    else
      bif (decide ((48 : Int) ≤ ((runeAt a0 v18_h10_0_1.toNat).1 : Int))) then
        bif (decide (((runeAt a0 v18_h10_0_1.toNat).1 : Int) ≤ 57)) then
          some (.next (v18_h10_0_1 + ((runeAt a0 v18_h10_0_1.toNat).2 : Int)))
        else
          bif (decide (((runeAt a0 v18_h10_0_1.toNat).1 : Int) = 45)) then
            some (.next (v18_h10_0_1 + ((runeAt a0 v18_h10_0_1.toNat).2 : Int)))
          else
            bif (decide (((runeAt a0 v18_h10_0_1.toNat).1 : Int) = 95)) then
              some (.next (v18_h10_0_1 + ((runeAt a0 v18_h10_0_1.toNat).2 : Int)))
            else
              some (.done (.ret v18_h10_0_1))
      else
        bif (decide (((runeAt a0 v18_h10_0_1.toNat).1 : Int) = 45)) then
          some (.next (v18_h10_0_1 + ((runeAt a0 v18_h10_0_1.toNat).2 : Int)))
        else
          bif (decide (((runeAt a0 v18_h10_0_1.toNat).1 : Int) = 95)) then
            some (.next (v18_h10_0_1 + ((runeAt a0 v18_h10_0_1.toNat).2 : Int)))
          else
            some (.done (.ret v18_h10_0_1))
  else
    some (.done (.x0))
set_option maxHeartbeats 4000000 in
theorem meta_tenant.l0_ok {α : Type} {F : Env → Heap → Option α} {K : List Fr} (fin : meta_tenant.l0X → Option α) (a0 : (List UInt8))
    (hx0 : ∀ (e : Env) (H : Heap), outL X [] F K e H 0 = fin (.x0))
    (hret : ∀ (v35_6 : Int) (e : Env) (H : Heap), e 6 = (.int .i64 v35_6) → F e H = fin (.ret v35_6)) (v18_h10_0_1 : Int) (e : Env) (H : Heap) (g1_18 : e 1 = (.fn 47 [])) (g2_18 : e 2 = (.bool true)) (g10_18 : e 10 = (.ptr [10] 1 1 0)) (k10_18 : H [10] = (1, some ⟨false, true, 0, [(.tup [(.str a0), (.int .i64 v18_h10_0_1)])]⟩)) :
    runL X [] F (.c (.loop c71_l0) :: K) e H = (loopL (meta_tenant.l0B a0) v18_h10_0_1).bind fin := by
  refine loop_of (R := fun (v18_h10_0_1 : Int) (e : Env) (H : Heap) => e 1 = (.fn 47 []) ∧ e 2 = (.bool true) ∧ e 10 = (.ptr [10] 1 1 0) ∧ H [10] = (1, some ⟨false, true, 0, [(.tup [(.str a0), (.int .i64 v18_h10_0_1)])]⟩)) fin ?_ ⟨g1_18, g2_18, g10_18, k10_18⟩
  clear k10_18 g10_18 g2_18 g1_18 e H v18_h10_0_1
  intro n G hn hd s e H hR
  revert hR; revert s; intro v18_h10_0_1 hR
  obtain ⟨g1_18, g2_18, g10_18, k10_18⟩ := hR
  simp only [D, DT, reduceIte, reduceCtorEq, Nat.reduceEqDiff, Nat.reduceAdd, Nat.reduceLT, Nat.reduceLeDiff, Nat.reduceBEq, Int.reduceLE, Int.reduceLT, Int.reduceEq, Int.reduceNeg, meta_tenant.l0B, g1_18, g2_18, g10_18, k10_18, c71_l0]
  cases h36 : (decide (v18_h10_0_1.toNat < a0.length))
  · simp only [D, DT, reduceIte, reduceCtorEq, Nat.reduceEqDiff, Nat.reduceAdd, Nat.reduceLT, Nat.reduceLeDiff, Nat.reduceBEq, Int.reduceLE, Int.reduceLT, Int.reduceEq, Int.reduceNeg, g1_18, g2_18, g10_18, k10_18, c71_l0, h36]
    exact (hx0 _ _).trans (hd _).symm
  · simp only [D, DT, reduceIte, reduceCtorEq, Nat.reduceEqDiff, Nat.reduceAdd, Nat.reduceLT, Nat.reduceLeDiff, Nat.reduceBEq, Int.reduceLE, Int.reduceLT, Int.reduceEq, Int.reduceNeg, g1_18, g2_18, g10_18, k10_18, c71_l0, h36]
    rw [ans_in (fd := c47) rfl rfl]
    simp only [D, DT, reduceIte, reduceCtorEq, Nat.reduceEqDiff, Nat.reduceAdd, Nat.reduceLT, Nat.reduceLeDiff, Nat.reduceBEq, Int.reduceLE, Int.reduceLT, Int.reduceEq, Int.reduceNeg, c47, g1_18, g2_18, g10_18, k10_18, c71_l0, h36]
    cases h37 : (decide ((97 : Int) ≤ (IntKind.i32.wrap (((BitVec.ofInt IntKind.i32.bits ((runeAt a0 v18_h10_0_1.toNat).1 : Int) ||| BitVec.ofInt IntKind.i32.bits 32).toNat : Int)))))
    · simp only [D, DT, reduceIte, reduceCtorEq, Nat.reduceEqDiff, Nat.reduceAdd, Nat.reduceLT, Nat.reduceLeDiff, Nat.reduceBEq, Int.reduceLE, Int.reduceLT, Int.reduceEq, Int.reduceNeg, g1_18, g2_18, g10_18, k10_18, c71_l0, h36, h37]
      cases h38 : (decide ((48 : Int) ≤ ((runeAt a0 v18_h10_0_1.toNat).1 : Int)))
      · simp only [D, DT, reduceIte, reduceCtorEq, Nat.reduceEqDiff, Nat.reduceAdd, Nat.reduceLT, Nat.reduceLeDiff, Nat.reduceBEq, Int.reduceLE, Int.reduceLT, Int.reduceEq, Int.reduceNeg, g1_18, g2_18, g10_18, k10_18, c71_l0, h36, h37, h38]
        cases h39 : (decide (((runeAt a0 v18_h10_0_1.toNat).1 : Int) = 45))
        · simp only [D, DT, reduceIte, reduceCtorEq, Nat.reduceEqDiff, Nat.reduceAdd, Nat.reduceLT, Nat.reduceLeDiff, Nat.reduceBEq, Int.reduceLE, Int.reduceLT, Int.reduceEq, Int.reduceNeg, g1_18, g2_18, g10_18, k10_18, c71_l0, h36, h37, h38, h39]
          cases h40 : (decide (((runeAt a0 v18_h10_0_1.toNat).1 : Int) = 95))
          · simp only [D, DT, reduceIte, reduceCtorEq, Nat.reduceEqDiff, Nat.reduceAdd, Nat.reduceLT, Nat.reduceLeDiff, Nat.reduceBEq, Int.reduceLE, Int.reduceLT, Int.reduceEq, Int.reduceNeg, g1_18, g2_18, g10_18, k10_18, c71_l0, h36, h37, h38, h39, h40]
            exact (hret v18_h10_0_1 _ _ (by first | (simp only [D, DT, reduceIte, reduceCtorEq, Nat.reduceEqDiff, Nat.reduceAdd, Nat.reduceLT, Nat.reduceLeDiff, Nat.reduceBEq, Int.reduceLE, Int.reduceLT, Int.reduceEq, Int.reduceNeg, g1_18, g2_18, g10_18, k10_18, c71_l0, h36, h37, h38, h39, h40] <;> rfl) | rfl)).trans (hd _).symm
          · simp only [D, DT, reduceIte, reduceCtorEq, Nat.reduceEqDiff, Nat.reduceAdd, Nat.reduceLT, Nat.reduceLeDiff, Nat.reduceBEq, Int.reduceLE, Int.reduceLT, Int.reduceEq, Int.reduceNeg, g1_18, g2_18, g10_18, k10_18, c71_l0, h36, h37, h38, h39, h40]
            exact hn _ _ _ ⟨(by first | (simp only [D, DT, reduceIte, reduceCtorEq, Nat.reduceEqDiff, Nat.reduceAdd, Nat.reduceLT, Nat.reduceLeDiff, Nat.reduceBEq, Int.reduceLE, Int.reduceLT, Int.reduceEq, Int.reduceNeg, g1_18, g2_18, g10_18, k10_18, c71_l0, h36, h37, h38, h39, h40] <;> rfl) | rfl), (by first | (simp only [D, DT, reduceIte, reduceCtorEq, Nat.reduceEqDiff, Nat.reduceAdd, Nat.reduceLT, Nat.reduceLeDiff, Nat.reduceBEq, Int.reduceLE, Int.reduceLT, Int.reduceEq, Int.reduceNeg, g1_18, g2_18, g10_18, k10_18, c71_l0, h36, h37, h38, h39, h40] <;> rfl) | rfl), (by first | (simp only [D, DT, reduceIte, reduceCtorEq, Nat.reduceEqDiff, Nat.reduceAdd, Nat.reduceLT, Nat.reduceLeDiff, Nat.reduceBEq, Int.reduceLE, Int.reduceLT, Int.reduceEq, Int.reduceNeg, g1_18, g2_18, g10_18, k10_18, c71_l0, h36, h37, h38, h39, h40] <;> rfl) | rfl), (by first | (simp only [D, DT, reduceIte, reduceCtorEq, Nat.reduceEqDiff, Nat.reduceAdd, Nat.reduceLT, Nat.reduceLeDiff, Nat.reduceBEq, Int.reduceLE, Int.reduceLT, Int.reduceEq, Int.reduceNeg, g1_18, g2_18, g10_18, k10_18, c71_l0, h36, h37, h38, h39, h40] <;> rfl) | rfl)⟩
        · simp only [D, DT, reduceIte, reduceCtorEq, Nat.reduceEqDiff, Nat.reduceAdd, Nat.reduceLT, Nat.reduceLeDiff, Nat.reduceBEq, Int.reduceLE, Int.reduceLT, Int.reduceEq, Int.reduceNeg, g1_18, g2_18, g10_18, k10_18, c71_l0, h36, h37, h38, h39]
          exact hn _ _ _ ⟨(by first | (simp only [D, DT, reduceIte, reduceCtorEq, Nat.reduceEqDiff, Nat.reduceAdd, Nat.reduceLT, Nat.reduceLeDiff, Nat.reduceBEq, Int.reduceLE, Int.reduceLT, Int.reduceEq, Int.reduceNeg, g1_18, g2_18, g10_18, k10_18, c71_l0, h36, h37, h38, h39] <;> rfl) | rfl), (by first | (simp only [D, DT, reduceIte, reduceCtorEq, Nat.reduceEqDiff, Nat.reduceAdd, Nat.reduceLT, Nat.reduceLeDiff, Nat.reduceBEq, Int.reduceLE, Int.reduceLT, Int.reduceEq, Int.reduceNeg, g1_18, g2_18, g10_18, k10_18, c71_l0, h36, h37, h38, h39] <;> rfl) | rfl), (by first | (simp only [D, DT, reduceIte, reduceCtorEq, Nat.reduceEqDiff, Nat.reduceAdd, Nat.reduceLT, Nat.reduceLeDiff, Nat.reduceBEq, Int.reduceLE, Int.reduceLT, Int.reduceEq, Int.reduceNeg, g1_18, g2_18, g10_18, k10_18, c71_l0, h36, h37, h38, h39] <;> rfl) | rfl), (by first | (simp only [D, DT, reduceIte, reduceCtorEq, Nat.reduceEqDiff, Nat.reduceAdd, Nat.reduceLT, Nat.reduceLeDiff, Nat.reduceBEq, Int.reduceLE, Int.reduceLT, Int.reduceEq, Int.reduceNeg, g1_18, g2_18, g10_18, k10_18, c71_l0, h36, h37, h38, h39] <;> rfl) | rfl)⟩
      · simp only [D, DT, reduceIte, reduceCtorEq, Nat.reduceEqDiff, Nat.reduceAdd, Nat.reduceLT, Nat.reduceLeDiff, Nat.reduceBEq, Int.reduceLE, Int.reduceLT, Int.reduceEq, Int.reduceNeg, g1_18, g2_18, g10_18, k10_18, c71_l0, h36, h37, h38]
        cases h41 : (decide (((runeAt a0 v18_h10_0_1.toNat).1 : Int) ≤ 57))
        · simp only [D, DT, reduceIte, reduceCtorEq, Nat.reduceEqDiff, Nat.reduceAdd, Nat.reduceLT, Nat.reduceLeDiff, Nat.reduceBEq, Int.reduceLE, Int.reduceLT, Int.reduceEq, Int.reduceNeg, g1_18, g2_18, g10_18, k10_18, c71_l0, h36, h37, h38, h41]
          cases h42 : (decide (((runeAt a0 v18_h10_0_1.toNat).1 : Int) = 45))
          · simp only [D, DT, reduceIte, reduceCtorEq, Nat.reduceEqDiff, Nat.reduceAdd, Nat.reduceLT, Nat.reduceLeDiff, Nat.reduceBEq, Int.reduceLE, Int.reduceLT, Int.reduceEq, Int.reduceNeg, g1_18, g2_18, g10_18, k10_18, c71_l0, h36, h37, h38, h41, h42]
            cases h43 : (decide (((runeAt a0 v18_h10_0_1.toNat).1 : Int) = 95))
            · simp only [D, DT, reduceIte, reduceCtorEq, Nat.reduceEqDiff, Nat.reduceAdd, Nat.reduceLT, Nat.reduceLeDiff, Nat.reduceBEq, Int.reduceLE, Int.reduceLT, Int.reduceEq, Int.reduceNeg, g1_18, g2_18, g10_18, k10_18, c71_l0, h36, h37, h38, h41, h42, h43]
              exact (hret v18_h10_0_1 _ _ (by first | (simp only [D, DT, reduceIte, reduceCtorEq, Nat.reduceEqDiff, Nat.reduceAdd, Nat.reduceLT, Nat.reduceLeDiff, Nat.reduceBEq, Int.reduceLE, Int.reduceLT, Int.reduceEq, Int.reduceNeg, g1_18, g2_18, g10_18, k10_18, c71_l0, h36, h37, h38, h41, h42, h43] <;> rfl) | rfl)).trans (hd _).symm
            · simp only [D, DT, reduceIte, reduceCtorEq, Nat.reduceEqDiff, Nat.reduceAdd, Nat.reduceLT, Nat.reduceLeDiff, Nat.reduceBEq, Int.reduceLE, Int.reduceLT, Int.reduceEq, Int.reduceNeg, g1_18, g2_18, g10_18, k10_18, c71_l0, h36, h37, h38, h41, h42, h43]
              exact hn _ _ _ ⟨(by first | (simp only [D, DT, reduceIte, reduceCtorEq, Nat.reduceEqDiff, Nat.reduceAdd, Nat.reduceLT, Nat.reduceLeDiff, Nat.reduceBEq, Int.reduceLE, Int.reduceLT, Int.reduceEq, Int.reduceNeg, g1_18, g2_18, g10_18, k10_18, c71_l0, h36, h37, h38, h41, h42, h43] <;> rfl) | rfl), (by first | (simp only [D, DT, reduceIte, reduceCtorEq, Nat.reduceEqDiff, Nat.reduceAdd, Nat.reduceLT, Nat.reduceLeDiff, Nat.reduceBEq, Int.reduceLE, Int.reduceLT, Int.reduceEq, Int.reduceNeg, g1_18, g2_18, g10_18, k10_18, c71_l0, h36, h37, h38, h41, h42, h43] <;> rfl) | rfl), (by first | (simp only [D, DT, reduceIte, reduceCtorEq, Nat.reduceEqDiff, Nat.reduceAdd, Nat.reduceLT, Nat.reduceLeDiff, Nat.reduceBEq, Int.reduceLE, Int.reduceLT, Int.reduceEq, Int.reduceNeg, g1_18, g2_18, g10_18, k10_18, c71_l0, h36, h37, h38, h41, h42, h43] <;> rfl) | rfl), (by first | (simp only [D, DT, reduceIte, reduceCtorEq, Nat.reduceEqDiff, Nat.reduceAdd, Nat.reduceLT, Nat.reduceLeDiff, Nat.reduceBEq, Int.reduceLE, Int.reduceLT, Int.reduceEq, Int.reduceNeg, g1_18, g2_18, g10_18, k10_18, c71_l0, h36, h37, h38, h41, h42, h43] <;> rfl) | rfl)⟩
          · simp only [D, DT, reduceIte, reduceCtorEq, Nat.reduceEqDiff, Nat.reduceAdd, Nat.reduceLT, Nat.reduceLeDiff, Nat.reduceBEq, Int.reduceLE, Int.reduceLT, Int.reduceEq, Int.reduceNeg, g1_18, g2_18, g10_18, k10_18, c71_l0, h36, h37, h38, h41, h42]
            exact hn _ _ _ ⟨(by first | (simp only [D, DT, reduceIte, reduceCtorEq, Nat.reduceEqDiff, Nat.reduceAdd, Nat.reduceLT, Nat.reduceLeDiff, Nat.reduceBEq, Int.reduceLE, Int.reduceLT, Int.reduceEq, Int.reduceNeg, g1_18, g2_18, g10_18, k10_18, c71_l0, h36, h37, h38, h41, h42] <;> rfl) | rfl), (by first | (simp only [D, DT, reduceIte, reduceCtorEq, Nat.reduceEqDiff, Nat.reduceAdd, Nat.reduceLT, Nat.reduceLeDiff, Nat.reduceBEq, Int.reduceLE, Int.reduceLT, Int.reduceEq, Int.reduceNeg, g1_18, g2_18, g10_18, k10_18, c71_l0, h36, h37, h38, h41, h42] <;> rfl) | rfl), (by first | (simp only [D, DT, reduceIte, reduceCtorEq, Nat.reduceEqDiff, Nat.reduceAdd, Nat.reduceLT, Nat.reduceLeDiff, Nat.reduceBEq, Int.reduceLE, Int.reduceLT, Int.reduceEq, Int.reduceNeg, g1_18, g2_18, g10_18, k10_18, c71_l0, h36, h37, h38, h41, h42] <;> rfl) | rfl), (by first | (simp only [D, DT, reduceIte, reduceCtorEq, Nat.reduceEqDiff, Nat.reduceAdd, Nat.reduceLT, Nat.reduceLeDiff, Nat.reduceBEq, Int.reduceLE, Int.reduceLT, Int.reduceEq, Int.reduceNeg, g1_18, g2_18, g10_18, k10_18, c71_l0, h36, h37, h38, h41, h42] <;> rfl) | rfl)⟩
        · simp only [D, DT, reduceIte, reduceCtorEq, Nat.reduceEqDiff, Nat.reduceAdd, Nat.reduceLT, Nat.reduceLeDiff, Nat.reduceBEq, Int.reduceLE, Int.reduceLT, Int.reduceEq, Int.reduceNeg, g1_18, g2_18, g10_18, k10_18, c71_l0, h36, h37, h38, h41]
          exact hn _ _ _ ⟨(by first | (simp only [D, DT, reduceIte, reduceCtorEq, Nat.reduceEqDiff, Nat.reduceAdd, Nat.reduceLT, Nat.reduceLeDiff, Nat.reduceBEq, Int.reduceLE, Int.reduceLT, Int.reduceEq, Int.reduceNeg, g1_18, g2_18, g10_18, k10_18, c71_l0, h36, h37, h38, h41] <;> rfl) | rfl), (by first | (simp only [D, DT, reduceIte, reduceCtorEq, Nat.reduceEqDiff, Nat.reduceAdd, Nat.reduceLT, Nat.reduceLeDiff, Nat.reduceBEq, Int.reduceLE, Int.reduceLT, Int.reduceEq, Int.reduceNeg, g1_18, g2_18, g10_18, k10_18, c71_l0, h36, h37, h38, h41] <;> rfl) | rfl), (by first | (simp only [D, DT, reduceIte, reduceCtorEq, Nat.reduceEqDiff, Nat.reduceAdd, Nat.reduceLT, Nat.reduceLeDiff, Nat.reduceBEq, Int.reduceLE, Int.reduceLT, Int.reduceEq, Int.reduceNeg, g1_18, g2_18, g10_18, k10_18, c71_l0, h36, h37, h38, h41] <;> rfl) | rfl), (by first | (simp only [D, DT, reduceIte, reduceCtorEq, Nat.reduceEqDiff, Nat.reduceAdd, Nat.reduceLT, Nat.reduceLeDiff, Nat.reduceBEq, Int.reduceLE, Int.reduceLT, Int.reduceEq, Int.reduceNeg, g1_18, g2_18, g10_18, k10_18, c71_l0, h36, h37, h38, h41] <;> rfl) | rfl)⟩
    · simp only [D, DT, reduceIte, reduceCtorEq, Nat.reduceEqDiff, Nat.reduceAdd, Nat.reduceLT, Nat.reduceLeDiff, Nat.reduceBEq, Int.reduceLE, Int.reduceLT, Int.reduceEq, Int.reduceNeg, g1_18, g2_18, g10_18, k10_18, c71_l0, h36, h37]
      cases h44 : (decide ((IntKind.i32.wrap (((BitVec.ofInt IntKind.i32.bits ((runeAt a0 v18_h10_0_1.toNat).1 : Int) ||| BitVec.ofInt IntKind.i32.bits 32).toNat : Int))) ≤ 122))
      · simp only [D, DT, reduceIte, reduceCtorEq, Nat.reduceEqDiff, Nat.reduceAdd, Nat.reduceLT, Nat.reduceLeDiff, Nat.reduceBEq, Int.reduceLE, Int.reduceLT, Int.reduceEq, Int.reduceNeg, g1_18, g2_18, g10_18, k10_18, c71_l0, h36, h37, h44]
        cases h45 : (decide ((48 : Int) ≤ ((runeAt a0 v18_h10_0_1.toNat).1 : Int)))
        · simp only [D, DT, reduceIte, reduceCtorEq, Nat.reduceEqDiff, Nat.reduceAdd, Nat.reduceLT, Nat.reduceLeDiff, Nat.reduceBEq, Int.reduceLE, Int.reduceLT, Int.reduceEq, Int.reduceNeg, g1_18, g2_18, g10_18, k10_18, c71_l0, h36, h37, h44, h45]
          cases h46 : (decide (((runeAt a0 v18_h10_0_1.toNat).1 : Int) = 45))
          · simp only [D, DT, reduceIte, reduceCtorEq, Nat.reduceEqDiff, Nat.reduceAdd, Nat.reduceLT, Nat.reduceLeDiff, Nat.reduceBEq, Int.reduceLE, Int.reduceLT, Int.reduceEq, Int.reduceNeg, g1_18, g2_18, g10_18, k10_18, c71_l0, h36, h37, h44, h45, h46]
            cases h47 : (decide (((runeAt a0 v18_h10_0_1.toNat).1 : Int) = 95))
            · simp only [D, DT, reduceIte, reduceCtorEq, Nat.reduceEqDiff, Nat.reduceAdd, Nat.reduceLT, Nat.reduceLeDiff, Nat.reduceBEq, Int.reduceLE, Int.reduceLT, Int.reduceEq, Int.reduceNeg, g1_18, g2_18, g10_18, k10_18, c71_l0, h36, h37, h44, h45, h46, h47]
              exact (hret v18_h10_0_1 _ _ (by first | (simp only [D, DT, reduceIte, reduceCtorEq, Nat.reduceEqDiff, Nat.reduceAdd, Nat.reduceLT, Nat.reduceLeDiff, Nat.reduceBEq, Int.reduceLE, Int.reduceLT, Int.reduceEq, Int.reduceNeg, g1_18, g2_18, g10_18, k10_18, c71_l0, h36, h37, h44, h45, h46, h47] <;> rfl) | rfl)).trans (hd _).symm
            · simp only [D, DT, reduceIte, reduceCtorEq, Nat.reduceEqDiff, Nat.reduceAdd, Nat.reduceLT, Nat.reduceLeDiff, Nat.reduceBEq, Int.reduceLE, Int.reduceLT, Int.reduceEq, Int.reduceNeg, g1_18, g2_18, g10_18, k10_18, c71_l0, h36, h37, h44, h45, h46, h47]
              exact hn _ _ _ ⟨(by first | (simp only [D, DT, reduceIte, reduceCtorEq, Nat.reduceEqDiff, Nat.reduceAdd, Nat.reduceLT, Nat.reduceLeDiff, Nat.reduceBEq, Int.reduceLE, Int.reduceLT, Int.reduceEq, Int.reduceNeg, g1_18, g2_18, g10_18, k10_18, c71_l0, h36, h37, h44, h45, h46, h47] <;> rfl) | rfl), (by first | (simp only [D, DT, reduceIte, reduceCtorEq, Nat.reduceEqDiff, Nat.reduceAdd, Nat.reduceLT, Nat.reduceLeDiff, Nat.reduceBEq, Int.reduceLE, Int.reduceLT, Int.reduceEq, Int.reduceNeg, g1_18, g2_18, g10_18, k10_18, c71_l0, h36, h37, h44, h45, h46, h47] <;> rfl) | rfl), (by first | (simp only [D, DT, reduceIte, reduceCtorEq, Nat.reduceEqDiff, Nat.reduceAdd, Nat.reduceLT, Nat.reduceLeDiff, Nat.reduceBEq, Int.reduceLE, Int.reduceLT, Int.reduceEq, Int.reduceNeg, g1_18, g2_18, g10_18, k10_18, c71_l0, h36, h37, h44, h45, h46, h47] <;> rfl) | rfl), (by first | (simp only [D, DT, reduceIte, reduceCtorEq, Nat.reduceEqDiff, Nat.reduceAdd, Nat.reduceLT, Nat.reduceLeDiff, Nat.reduceBEq, Int.reduceLE, Int.reduceLT, Int.reduceEq, Int.reduceNeg, g1_18, g2_18, g10_18, k10_18, c71_l0, h36, h37, h44, h45, h46, h47] <;> rfl) | rfl)⟩
          · simp only [D, DT, reduceIte, reduceCtorEq, Nat.reduceEqDiff, Nat.reduceAdd, Nat.reduceLT, Nat.reduceLeDiff, Nat.reduceBEq, Int.reduceLE, Int.reduceLT, Int.reduceEq, Int.reduceNeg, g1_18, g2_18, g10_18, k10_18, c71_l0, h36, h37, h44, h45, h46]
            exact hn _ _ _ ⟨(by first | (simp only [D, DT, reduceIte, reduceCtorEq, Nat.reduceEqDiff, Nat.reduceAdd, Nat.reduceLT, Nat.reduceLeDiff, Nat.reduceBEq, Int.reduceLE, Int.reduceLT, Int.reduceEq, Int.reduceNeg, g1_18, g2_18, g10_18, k10_18, c71_l0, h36, h37, h44, h45, h46] <;> rfl) | rfl), (by first | (simp only [D, DT, reduceIte, reduceCtorEq, Nat.reduceEqDiff, Nat.reduceAdd, Nat.reduceLT, Nat.reduceLeDiff, Nat.reduceBEq, Int.reduceLE, Int.reduceLT, Int.reduceEq, Int.reduceNeg, g1_18, g2_18, g10_18, k10_18, c71_l0, h36, h37, h44, h45, h46] <;> rfl) | rfl), (by first | (simp only [D, DT, reduceIte, reduceCtorEq, Nat.reduceEqDiff, Nat.reduceAdd, Nat.reduceLT, Nat.reduceLeDiff, Nat.reduceBEq, Int.reduceLE, Int.reduceLT, Int.reduceEq, Int.reduceNeg, g1_18, g2_18, g10_18, k10_18, c71_l0, h36, h37, h44, h45, h46] <;> rfl) | rfl), (by first | (simp only [D, DT, reduceIte, reduceCtorEq, Nat.reduceEqDiff, Nat.reduceAdd, Nat.reduceLT, Nat.reduceLeDiff, Nat.reduceBEq, Int.reduceLE, Int.reduceLT, Int.reduceEq, Int.reduceNeg, g1_18, g2_18, g10_18, k10_18, c71_l0, h36, h37, h44, h45, h46] <;> rfl) | rfl)⟩
        · simp only [D, DT, reduceIte, reduceCtorEq, Nat.reduceEqDiff, Nat.reduceAdd, Nat.reduceLT, Nat.reduceLeDiff, Nat.reduceBEq, Int.reduceLE, Int.reduceLT, Int.reduceEq, Int.reduceNeg, g1_18, g2_18, g10_18, k10_18, c71_l0, h36, h37, h44, h45]
          cases h48 : (decide (((runeAt a0 v18_h10_0_1.toNat).1 : Int) ≤ 57))
          · simp only [D, DT, reduceIte, reduceCtorEq, Nat.reduceEqDiff, Nat.reduceAdd, Nat.reduceLT, Nat.reduceLeDiff, Nat.reduceBEq, Int.reduceLE, Int.reduceLT, Int.reduceEq, Int.reduceNeg, g1_18, g2_18, g10_18, k10_18, c71_l0, h36, h37, h44, h45, h48]
            cases h49 : (decide (((runeAt a0 v18_h10_0_1.toNat).1 : Int) = 45))
            · simp only [D, DT, reduceIte, reduceCtorEq, Nat.reduceEqDiff, Nat.reduceAdd, Nat.reduceLT, Nat.reduceLeDiff, Nat.reduceBEq, Int.reduceLE, Int.reduceLT, Int.reduceEq, Int.reduceNeg, g1_18, g2_18, g10_18, k10_18, c71_l0, h36, h37, h44, h45, h48, h49]
              cases h50 : (decide (((runeAt a0 v18_h10_0_1.toNat).1 : Int) = 95))
              · simp only [D, DT, reduceIte, reduceCtorEq, Nat.reduceEqDiff, Nat.reduceAdd, Nat.reduceLT, Nat.reduceLeDiff, Nat.reduceBEq, Int.reduceLE, Int.reduceLT, Int.reduceEq, Int.reduceNeg, g1_18, g2_18, g10_18, k10_18, c71_l0, h36, h37, h44, h45, h48, h49, h50]
                exact (hret v18_h10_0_1 _ _ (by first | (simp only [D, DT, reduceIte, reduceCtorEq, Nat.reduceEqDiff, Nat.reduceAdd, Nat.reduceLT, Nat.reduceLeDiff, Nat.reduceBEq, Int.reduceLE, Int.reduceLT, Int.reduceEq, Int.reduceNeg, g1_18, g2_18, g10_18, k10_18, c71_l0, h36, h37, h44, h45, h48, h49, h50] <;> rfl) | rfl)).trans (hd _).symm
              · simp only [D, DT, reduceIte, reduceCtorEq, Nat.reduceEqDiff, Nat.reduceAdd, Nat.reduceLT, Nat.reduceLeDiff, Nat.reduceBEq, Int.reduceLE, Int.reduceLT, Int.reduceEq, Int.reduceNeg, g1_18, g2_18, g10_18, k10_18, c71_l0, h36, h37, h44, h45, h48, h49, h50]
                exact hn _ _ _ ⟨(by first | (simp only [D, DT, reduceIte, reduceCtorEq, Nat.reduceEqDiff, Nat.reduceAdd, Nat.reduceLT, Nat.reduceLeDiff, Nat.reduceBEq, Int.reduceLE, Int.reduceLT, Int.reduceEq, Int.reduceNeg, g1_18, g2_18, g10_18, k10_18, c71_l0, h36, h37, h44, h45, h48, h49, h50] <;> rfl) | rfl), (by first | (simp only [D, DT, reduceIte, reduceCtorEq, Nat.reduceEqDiff, Nat.reduceAdd, Nat.reduceLT, Nat.reduceLeDiff, Nat.reduceBEq, Int.reduceLE, Int.reduceLT, Int.reduceEq, Int.reduceNeg, g1_18, g2_18, g10_18, k10_18, c71_l0, h36, h37, h44, h45, h48, h49, h50] <;> rfl) | rfl), (by first | (simp only [D, DT, reduceIte, reduceCtorEq, Nat.reduceEqDiff, Nat.reduceAdd, Nat.reduceLT, Nat.reduceLeDiff, Nat.reduceBEq, Int.reduceLE, Int.reduceLT, Int.reduceEq, Int.reduceNeg, g1_18, g2_18, g10_18, k10_18, c71_l0, h36, h37, h44, h45, h48, h49, h50] <;> rfl) | rfl), (by first | (simp only [D, DT, reduceIte, reduceCtorEq, Nat.reduceEqDiff, Nat.reduceAdd, Nat.reduceLT, Nat.reduceLeDiff, Nat.reduceBEq, Int.reduceLE, Int.reduceLT, Int.reduceEq, Int.reduceNeg, g1_18, g2_18, g10_18, k10_18, c71_l0, h36, h37, h44, h45, h48, h49, h50] <;> rfl) | rfl)⟩
            · simp only [D, DT, reduceIte, reduceCtorEq, Nat.reduceEqDiff, Nat.reduceAdd, Nat.reduceLT, Nat.reduceLeDiff, Nat.reduceBEq, Int.reduceLE, Int.reduceLT, Int.reduceEq, Int.reduceNeg, g1_18, g2_18, g10_18, k10_18, c71_l0, h36, h37, h44, h45, h48, h49]
              exact hn _ _ _ ⟨(by first | (simp only [D, DT, reduceIte, reduceCtorEq, Nat.reduceEqDiff, Nat.reduceAdd, Nat.reduceLT, Nat.reduceLeDiff, Nat.reduceBEq, Int.reduceLE, Int.reduceLT, Int.reduceEq, Int.reduceNeg, g1_18, g2_18, g10_18, k10_18, c71_l0, h36, h37, h44, h45, h48, h49] <;> rfl) | rfl), (by first | (simp only [D, DT, reduceIte, reduceCtorEq, Nat.reduceEqDiff, Nat.reduceAdd, Nat.reduceLT, Nat.reduceLeDiff, Nat.reduceBEq, Int.reduceLE, Int.reduceLT, Int.reduceEq, Int.reduceNeg, g1_18, g2_18, g10_18, k10_18, c71_l0, h36, h37, h44, h45, h48, h49] <;> rfl) | rfl), (by first | (simp only [D, DT, reduceIte, reduceCtorEq, Nat.reduceEqDiff, Nat.reduceAdd, Nat.reduceLT, Nat.reduceLeDiff, Nat.reduceBEq, Int.reduceLE, Int.reduceLT, Int.reduceEq, Int.reduceNeg, g1_18, g2_18, g10_18, k10_18, c71_l0, h36, h37, h44, h45, h48, h49] <;> rfl) | rfl), (by first | (simp only [D, DT, reduceIte, reduceCtorEq, Nat.reduceEqDiff, Nat.reduceAdd, Nat.reduceLT, Nat.reduceLeDiff, Nat.reduceBEq, Int.reduceLE, Int.reduceLT, Int.reduceEq, Int.reduceNeg, g1_18, g2_18, g10_18, k10_18, c71_l0, h36, h37, h44, h45, h48, h49] <;> rfl) | rfl)⟩
          · simp only [D, DT, reduceIte, reduceCtorEq, Nat.reduceEqDiff, Nat.reduceAdd, Nat.reduceLT, Nat.reduceLeDiff, Nat.reduceBEq, Int.reduceLE, Int.reduceLT, Int.reduceEq, Int.reduceNeg, g1_18, g2_18, g10_18, k10_18, c71_l0, h36, h37, h44, h45, h48]
            exact hn _ _ _ ⟨(by first | (simp only [D, DT, reduceIte, reduceCtorEq, Nat.reduceEqDiff, Nat.reduceAdd, Nat.reduceLT, Nat.reduceLeDiff, Nat.reduceBEq, Int.reduceLE, Int.reduceLT, Int.reduceEq, Int.reduceNeg, g1_18, g2_18, g10_18, k10_18, c71_l0, h36, h37, h44, h45, h48] <;> rfl) | rfl), (by first | (simp only [D, DT, reduceIte, reduceCtorEq, Nat.reduceEqDiff, Nat.reduceAdd, Nat.reduceLT, Nat.reduceLeDiff, Nat.reduceBEq, Int.reduceLE, Int.reduceLT, Int.reduceEq, Int.reduceNeg, g1_18, g2_18, g10_18, k10_18, c71_l0, h36, h37, h44, h45, h48] <;> rfl) | rfl), (by first | (simp only [D, DT, reduceIte, reduceCtorEq, Nat.reduceEqDiff, Nat.reduceAdd, Nat.reduceLT, Nat.reduceLeDiff, Nat.reduceBEq, Int.reduceLE, Int.reduceLT, Int.reduceEq, Int.reduceNeg, g1_18, g2_18, g10_18, k10_18, c71_l0, h36, h37, h44, h45, h48] <;> rfl) | rfl), (by first | (simp only [D, DT, reduceIte, reduceCtorEq, Nat.reduceEqDiff, Nat.reduceAdd, Nat.reduceLT, Nat.reduceLeDiff, Nat.reduceBEq, Int.reduceLE, Int.reduceLT, Int.reduceEq, Int.reduceNeg, g1_18, g2_18, g10_18, k10_18, c71_l0, h36, h37, h44, h45, h48] <;> rfl) | rfl)⟩
      · simp only [D, DT, reduceIte, reduceCtorEq, Nat.reduceEqDiff, Nat.reduceAdd, Nat.reduceLT, Nat.reduceLeDiff, Nat.reduceBEq, Int.reduceLE, Int.reduceLT, Int.reduceEq, Int.reduceNeg, g1_18, g2_18, g10_18, k10_18, c71_l0, h36, h37, h44]
        exact hn _ _ _ ⟨(by first | (simp only [D, DT, reduceIte, reduceCtorEq, Nat.reduceEqDiff, Nat.reduceAdd, Nat.reduceLT, Nat.reduceLeDiff, Nat.reduceBEq, Int.reduceLE, Int.reduceLT, Int.reduceEq, Int.reduceNeg, g1_18, g2_18, g10_18, k10_18, c71_l0, h36, h37, h44] <;> rfl) | rfl), (by first | (simp only [D, DT, reduceIte, reduceCtorEq, Nat.reduceEqDiff, Nat.reduceAdd, Nat.reduceLT, Nat.reduceLeDiff, Nat.reduceBEq, Int.reduceLE, Int.reduceLT, Int.reduceEq, Int.reduceNeg, g1_18, g2_18, g10_18, k10_18, c71_l0, h36, h37, h44] <;> rfl) | rfl), (by first | (simp only [D, DT, reduceIte, reduceCtorEq, Nat.reduceEqDiff, Nat.reduceAdd, Nat.reduceLT, Nat.reduceLeDiff, Nat.reduceBEq, Int.reduceLE, Int.reduceLT, Int.reduceEq, Int.reduceNeg, g1_18, g2_18, g10_18, k10_18, c71_l0, h36, h37, h44] <;> rfl) | rfl), (by first | (simp only [D, DT, reduceIte, reduceCtorEq, Nat.reduceEqDiff, Nat.reduceAdd, Nat.reduceLT, Nat.reduceLeDiff, Nat.reduceBEq, Int.reduceLE, Int.reduceLT, Int.reduceEq, Int.reduceNeg, g1_18, g2_18, g10_18, k10_18, c71_l0, h36, h37, h44] <;> rfl) | rfl)⟩
noncomputable def meta_tenant.a0 (a0 : (List UInt8)) : meta_tenant.l0X → Option Bool
  | .x0 =>
    (strings_HasPrefix.f a0 [45]).bind fun x54 =>
    some (!x54)
  | .ret v35_6 =>
    bif (decide (v35_6 < 0)) then
      (strings_HasPrefix.f a0 [45]).bind fun x59 =>
      some (!x59)
    else
      some false
noncomputable def meta_tenant.f (a0 : (List UInt8)) : Option Bool :=
  bif (decide ((a0.length : Int) ≤ 40)) then
    (loopL (meta_tenant.l0B a0) 0).bind (meta_tenant.a0 a0)
  else
    some false
set_option maxHeartbeats 4000000 in
theorem meta_tenant.ok (a0 : (List UInt8)) : ansL X 22 [(.str a0)] = Option.map AV.bool (meta_tenant.f a0) := by
  rw [ansL_run (fd := c22) rfl rfl]
  simp only [D, DT, reduceIte, reduceCtorEq, Nat.reduceEqDiff, Nat.reduceAdd, Nat.reduceLT, Nat.reduceLeDiff, Nat.reduceBEq, Int.reduceLE, Int.reduceLT, Int.reduceEq, Int.reduceNeg, c22, meta_tenant.f]
  cases h1 : (decide ((a0.length : Int) ≤ 40))
  · simp only [D, DT, reduceIte, reduceCtorEq, Nat.reduceEqDiff, Nat.reduceAdd, Nat.reduceLT, Nat.reduceLeDiff, Nat.reduceBEq, Int.reduceLE, Int.reduceLT, Int.reduceEq, Int.reduceNeg, h1]
    try rfl
  · simp only [D, DT, reduceIte, reduceCtorEq, Nat.reduceEqDiff, Nat.reduceAdd, Nat.reduceLT, Nat.reduceLeDiff, Nat.reduceBEq, Int.reduceLE, Int.reduceLT, Int.reduceEq, Int.reduceNeg, h1]
    rw [ans_in (fd := c45) rfl rfl]
    simp only [D, DT, reduceIte, reduceCtorEq, Nat.reduceEqDiff, Nat.reduceAdd, Nat.reduceLT, Nat.reduceLeDiff, Nat.reduceBEq, Int.reduceLE, Int.reduceLT, Int.reduceEq, Int.reduceNeg, c45, h1]
    rw [ans_in (fd := c71) rfl rfl]
    simp only [D, DT, reduceIte, reduceCtorEq, Nat.reduceEqDiff, Nat.reduceAdd, Nat.reduceLT, Nat.reduceLeDiff, Nat.reduceBEq, Int.reduceLE, Int.reduceLT, Int.reduceEq, Int.reduceNeg, c71, h1]
    refine Eq.trans (meta_tenant.l0_ok (fun x => Option.map AV.bool (meta_tenant.a0 a0 x)) a0 ?_ ?_ 0 _ _ (by first | (simp only [D, DT, reduceIte, reduceCtorEq, Nat.reduceEqDiff, Nat.reduceAdd, Nat.reduceLT, Nat.reduceLeDiff, Nat.reduceBEq, Int.reduceLE, Int.reduceLT, Int.reduceEq, Int.reduceNeg, h1] <;> rfl) | rfl) (by first | (simp only [D, DT, reduceIte, reduceCtorEq, Nat.reduceEqDiff, Nat.reduceAdd, Nat.reduceLT, Nat.reduceLeDiff, Nat.reduceBEq, Int.reduceLE, Int.reduceLT, Int.reduceEq, Int.reduceNeg, h1] <;> rfl) | rfl) (by first | (simp only [D, DT, reduceIte, reduceCtorEq, Nat.reduceEqDiff, Nat.reduceAdd, Nat.reduceLT, Nat.reduceLeDiff, Nat.reduceBEq, Int.reduceLE, Int.reduceLT, Int.reduceEq, Int.reduceNeg, h1] <;> rfl) | rfl) (by first | (simp only [D, DT, reduceIte, reduceCtorEq, Nat.reduceEqDiff, Nat.reduceAdd, Nat.reduceLT, Nat.reduceLeDiff, Nat.reduceBEq, Int.reduceLE, Int.reduceLT, Int.reduceEq, Int.reduceNeg, h1] <;> rfl) | rfl)) ?_
    · intro e_51 H_51
      simp only [D, DT, reduceIte, reduceCtorEq, Nat.reduceEqDiff, Nat.reduceAdd, Nat.reduceLT, Nat.reduceLeDiff, Nat.reduceBEq, Int.reduceLE, Int.reduceLT, Int.reduceEq, Int.reduceNeg, meta_tenant.a0, h1]
      have c52 : ansL X 48 [(.str a0), (.str [45])] = Option.map AV.bool (strings_HasPrefix.f a0 [45]) := strings_HasPrefix.ok a0 [45]
      rcases h53 : strings_HasPrefix.f a0 [45] with _ | x54
      · simp only [D, DT, reduceIte, reduceCtorEq, Nat.reduceEqDiff, Nat.reduceAdd, Nat.reduceLT, Nat.reduceLeDiff, Nat.reduceBEq, Int.reduceLE, Int.reduceLT, Int.reduceEq, Int.reduceNeg, h1, c52, h53]
      · simp only [D, DT, reduceIte, reduceCtorEq, Nat.reduceEqDiff, Nat.reduceAdd, Nat.reduceLT, Nat.reduceLeDiff, Nat.reduceBEq, Int.reduceLE, Int.reduceLT, Int.reduceEq, Int.reduceNeg, h1, c52, h53]
        try rfl
    · intro v35_6 e_55 H_55 g6_35_55
      simp only [D, DT, reduceIte, reduceCtorEq, Nat.reduceEqDiff, Nat.reduceAdd, Nat.reduceLT, Nat.reduceLeDiff, Nat.reduceBEq, Int.reduceLE, Int.reduceLT, Int.reduceEq, Int.reduceNeg, meta_tenant.a0, h1, g6_35_55]
      cases h56 : (decide (v35_6 < 0))
      · simp only [D, DT, reduceIte, reduceCtorEq, Nat.reduceEqDiff, Nat.reduceAdd, Nat.reduceLT, Nat.reduceLeDiff, Nat.reduceBEq, Int.reduceLE, Int.reduceLT, Int.reduceEq, Int.reduceNeg, h1, g6_35_55, h56]
        try rfl
      · simp only [D, DT, reduceIte, reduceCtorEq, Nat.reduceEqDiff, Nat.reduceAdd, Nat.reduceLT, Nat.reduceLeDiff, Nat.reduceBEq, Int.reduceLE, Int.reduceLT, Int.reduceEq, Int.reduceNeg, h1, g6_35_55, h56]
        have c57 : ansL X 48 [(.str a0), (.str [45])] = Option.map AV.bool (strings_HasPrefix.f a0 [45]) := strings_HasPrefix.ok a0 [45]
        rcases h58 : strings_HasPrefix.f a0 [45] with _ | x59
        · simp only [D, DT, reduceIte, reduceCtorEq, Nat.reduceEqDiff, Nat.reduceAdd, Nat.reduceLT, Nat.reduceLeDiff, Nat.reduceBEq, Int.reduceLE, Int.reduceLT, Int.reduceEq, Int.reduceNeg, h1, g6_35_55, h56, c57, h58]
        · simp only [D, DT, reduceIte, reduceCtorEq, Nat.reduceEqDiff, Nat.reduceAdd, Nat.reduceLT, Nat.reduceLeDiff, Nat.reduceBEq, Int.reduceLE, Int.reduceLT, Int.reduceEq, Int.reduceNeg, h1, g6_35_55, h56, c57, h58]
          try rfl
    exact mb _ _ _
inductive meta_key.l0X where
  | x0
  | ret (v12_6 : Int)
noncomputable def meta_key.l0B (a0 : (List UInt8)) (v7_h10_0_1 : Int) : Option (Step (Int) meta_key.l0X) :=
  bif (decide (v7_h10_0_1.toNat < a0.length)) then
    bif (decide (((runeAt a0 v7_h10_0_1.toNat).1 : Int) < 33)) then
      some (.done (.ret v7_h10_0_1))
    else
      bif (decide ((126 : Int) < ((runeAt a0 v7_h10_0_1.toNat).1 : Int))) then
        some (.done (.ret v7_h10_0_1))
      else
        some (.next (v7_h10_0_1 + ((runeAt a0 v7_h10_0_1.toNat).2 : Int)))
  else
    some (.done (.x0))
set_option maxHeartbeats 4000000 in
theorem meta_key.l0_ok {α : Type} {F : Env → Heap → Option α} {K : List Fr} (fin : meta_key.l0X → Option α) (a0 : (List UInt8))
    (hx0 : ∀ (e : Env) (H : Heap), outL X [] F K e H 0 = fin (.x0))
    (hret : ∀ (v12_6 : Int) (e : Env) (H : Heap), e 6 = (.int .i64 v12_6) → F e H = fin (.ret v12_6)) (v7_h10_0_1 : Int) (e : Env) (H : Heap) (g1_7 : e 1 = (.fn 49 [])) (g2_7 : e 2 = (.bool true)) (g10_7 : e 10 = (.ptr [10] 1 1 0)) (k10_7 : H [10] = (1, some ⟨false, true, 0, [(.tup [(.str a0), (.int .i64 v7_h10_0_1)])]⟩)) :
    runL X [] F (.c (.loop c71_l0) :: K) e H = (loopL (meta_key.l0B a0) v7_h10_0_1).bind fin := by
  refine loop_of (R := fun (v7_h10_0_1 : Int) (e : Env) (H : Heap) => e 1 = (.fn 49 []) ∧ e 2 = (.bool true) ∧ e 10 = (.ptr [10] 1 1 0) ∧ H [10] = (1, some ⟨false, true, 0, [(.tup [(.str a0), (.int .i64 v7_h10_0_1)])]⟩)) fin ?_ ⟨g1_7, g2_7, g10_7, k10_7⟩
  clear k10_7 g10_7 g2_7 g1_7 e H v7_h10_0_1
  intro n G hn hd s e H hR
  revert hR; revert s; intro v7_h10_0_1 hR
  obtain ⟨g1_7, g2_7, g10_7, k10_7⟩ := hR
  simp only [D, DT, reduceIte, reduceCtorEq, Nat.reduceEqDiff, Nat.reduceAdd, Nat.reduceLT, Nat.reduceLeDiff, Nat.reduceBEq, Int.reduceLE, Int.reduceLT, Int.reduceEq, Int.reduceNeg, meta_key.l0B, g1_7, g2_7, g10_7, k10_7, c71_l0]
  cases h13 : (decide (v7_h10_0_1.toNat < a0.length))
  · simp only [D, DT, reduceIte, reduceCtorEq, Nat.reduceEqDiff, Nat.reduceAdd, Nat.reduceLT, Nat.reduceLeDiff, Nat.reduceBEq, Int.reduceLE, Int.reduceLT, Int.reduceEq, Int.reduceNeg, g1_7, g2_7, g10_7, k10_7, c71_l0, h13]
    exact (hx0 _ _).trans (hd _).symm
  · simp only [D, DT, reduceIte, reduceCtorEq, Nat.reduceEqDiff, Nat.reduceAdd, Nat.reduceLT, Nat.reduceLeDiff, Nat.reduceBEq, Int.reduceLE, Int.reduceLT, Int.reduceEq, Int.reduceNeg, g1_7, g2_7, g10_7, k10_7, c71_l0, h13]
    rw [ans_in (fd := c49) rfl rfl]
    simp only [D, DT, reduceIte, reduceCtorEq, Nat.reduceEqDiff, Nat.reduceAdd, Nat.reduceLT, Nat.reduceLeDiff, Nat.reduceBEq, Int.reduceLE, Int.reduceLT, Int.reduceEq, Int.reduceNeg, c49, g1_7, g2_7, g10_7, k10_7, c71_l0, h13]
    cases h14 : (decide (((runeAt a0 v7_h10_0_1.toNat).1 : Int) < 33))
    · simp only [D, DT, reduceIte, reduceCtorEq, Nat.reduceEqDiff, Nat.reduceAdd, Nat.reduceLT, Nat.reduceLeDiff, Nat.reduceBEq, Int.reduceLE, Int.reduceLT, Int.reduceEq, Int.reduceNeg, g1_7, g2_7, g10_7, k10_7, c71_l0, h13, h14]
      cases h15 : (decide ((126 : Int) < ((runeAt a0 v7_h10_0_1.toNat).1 : Int)))
      · simp only [D, DT, reduceIte, reduceCtorEq, Nat.reduceEqDiff, Nat.reduceAdd, Nat.reduceLT, Nat.reduceLeDiff, Nat.reduceBEq, Int.reduceLE, Int.reduceLT, Int.reduceEq, Int.reduceNeg, g1_7, g2_7, g10_7, k10_7, c71_l0, h13, h14, h15]
        exact hn _ _ _ ⟨(by first | (simp only [D, DT, reduceIte, reduceCtorEq, Nat.reduceEqDiff, Nat.reduceAdd, Nat.reduceLT, Nat.reduceLeDiff, Nat.reduceBEq, Int.reduceLE, Int.reduceLT, Int.reduceEq, Int.reduceNeg, g1_7, g2_7, g10_7, k10_7, c71_l0, h13, h14, h15] <;> rfl) | rfl), (by first | (simp only [D, DT, reduceIte, reduceCtorEq, Nat.reduceEqDiff, Nat.reduceAdd, Nat.reduceLT, Nat.reduceLeDiff, Nat.reduceBEq, Int.reduceLE, Int.reduceLT, Int.reduceEq, Int.reduceNeg, g1_7, g2_7, g10_7, k10_7, c71_l0, h13, h14, h15] <;> rfl) | rfl), (by first | (simp only [D, DT, reduceIte, reduceCtorEq, Nat.reduceEqDiff, Nat.reduceAdd, Nat.reduceLT, Nat.reduceLeDiff, Nat.reduceBEq, Int.reduceLE, Int.reduceLT, Int.reduceEq, Int.reduceNeg, g1_7, g2_7, g10_7, k10_7, c71_l0, h13, h14, h15] <;> rfl) | rfl), (by first | (simp only [D, DT, reduceIte, reduceCtorEq, Nat.reduceEqDiff, Nat.reduceAdd, Nat.reduceLT, Nat.reduceLeDiff, Nat.reduceBEq, Int.reduceLE, Int.reduceLT, Int.reduceEq, Int.reduceNeg, g1_7, g2_7, g10_7, k10_7, c71_l0, h13, h14, h15] <;> rfl) | rfl)⟩
      · simp only [D, DT, reduceIte, reduceCtorEq, Nat.reduceEqDiff, Nat.reduceAdd, Nat.reduceLT, Nat.reduceLeDiff, Nat.reduceBEq, Int.reduceLE, Int.reduceLT, Int.reduceEq, Int.reduceNeg, g1_7, g2_7, g10_7, k10_7, c71_l0, h13, h14, h15]
        exact (hret v7_h10_0_1 _ _ (by first | (simp only [D, DT, reduceIte, reduceCtorEq, Nat.reduceEqDiff, Nat.reduceAdd, Nat.reduceLT, Nat.reduceLeDiff, Nat.reduceBEq, Int.reduceLE, Int.reduceLT, Int.reduceEq, Int.reduceNeg, g1_7, g2_7, g10_7, k10_7, c71_l0, h13, h14, h15] <;> rfl) | rfl)).trans (hd _).symm
    · simp only [D, DT, reduceIte, reduceCtorEq, Nat.reduceEqDiff, Nat.reduceAdd, Nat.reduceLT, Nat.reduceLeDiff, Nat.reduceBEq, Int.reduceLE, Int.reduceLT, Int.reduceEq, Int.reduceNeg, g1_7, g2_7, g10_7, k10_7, c71_l0, h13, h14]
      exact (hret v7_h10_0_1 _ _ (by first | (simp only [D, DT, reduceIte, reduceCtorEq, Nat.reduceEqDiff, Nat.reduceAdd, Nat.reduceLT, Nat.reduceLeDiff, Nat.reduceBEq, Int.reduceLE, Int.reduceLT, Int.reduceEq, Int.reduceNeg, g1_7, g2_7, g10_7, k10_7, c71_l0, h13, h14] <;> rfl) | rfl)).trans (hd _).symm
noncomputable def meta_key.a0 : meta_key.l0X → Option Bool
  | .x0 =>
    some true
  | .ret v12_6 =>
    some (decide (v12_6 < 0))
noncomputable def meta_key.f (a0 : (List UInt8)) : Option Bool :=
  bif (a0 == []) then
    some false
  else
    bif (decide ((a0.length : Int) ≤ 200)) then
      (loopL (meta_key.l0B a0) 0).bind (meta_key.a0)
    else
      some false
set_option maxHeartbeats 4000000 in
theorem meta_key.ok (a0 : (List UInt8)) : ansL X 23 [(.str a0)] = Option.map AV.bool (meta_key.f a0) := by
  rw [ansL_run (fd := c23) rfl rfl]
  simp only [D, DT, reduceIte, reduceCtorEq, Nat.reduceEqDiff, Nat.reduceAdd, Nat.reduceLT, Nat.reduceLeDiff, Nat.reduceBEq, Int.reduceLE, Int.reduceLT, Int.reduceEq, Int.reduceNeg, c23, meta_key.f]
  cases h1 : (a0 == [])
  · simp only [D, DT, reduceIte, reduceCtorEq, Nat.reduceEqDiff, Nat.reduceAdd, Nat.reduceLT, Nat.reduceLeDiff, Nat.reduceBEq, Int.reduceLE, Int.reduceLT, Int.reduceEq, Int.reduceNeg, h1]
    cases h2 : (decide ((a0.length : Int) ≤ 200))
    · simp only [D, DT, reduceIte, reduceCtorEq, Nat.reduceEqDiff, Nat.reduceAdd, Nat.reduceLT, Nat.reduceLeDiff, Nat.reduceBEq, Int.reduceLE, Int.reduceLT, Int.reduceEq, Int.reduceNeg, h1, h2]
      try rfl
    · simp only [D, DT, reduceIte, reduceCtorEq, Nat.reduceEqDiff, Nat.reduceAdd, Nat.reduceLT, Nat.reduceLeDiff, Nat.reduceBEq, Int.reduceLE, Int.reduceLT, Int.reduceEq, Int.reduceNeg, h1, h2]
      rw [ans_in (fd := c45) rfl rfl]
      simp only [D, DT, reduceIte, reduceCtorEq, Nat.reduceEqDiff, Nat.reduceAdd, Nat.reduceLT, Nat.reduceLeDiff, Nat.reduceBEq, Int.reduceLE, Int.reduceLT, Int.reduceEq, Int.reduceNeg, c45, h1, h2]
      rw [ans_in (fd := c71) rfl rfl]
      simp only [D, DT, reduceIte, reduceCtorEq, Nat.reduceEqDiff, Nat.reduceAdd, Nat.reduceLT, Nat.reduceLeDiff, Nat.reduceBEq, Int.reduceLE, Int.reduceLT, Int.reduceEq, Int.reduceNeg, c71, h1, h2]
      refine Eq.trans (meta_key.l0_ok (fun x => Option.map AV.bool (meta_key.a0 x)) a0 ?_ ?_ 0 _ _ (by first | (simp only [D, DT, reduceIte, reduceCtorEq, Nat.reduceEqDiff, Nat.reduceAdd, Nat.reduceLT, Nat.reduceLeDiff, Nat.reduceBEq, Int.reduceLE, Int.reduceLT, Int.reduceEq, Int.reduceNeg, h1, h2] <;> rfl) | rfl) (by first | (simp only [D, DT, reduceIte, reduceCtorEq, Nat.reduceEqDiff, Nat.reduceAdd, Nat.reduceLT, Nat.reduceLeDiff, Nat.reduceBEq, Int.reduceLE, Int.reduceLT, Int.reduceEq, Int.reduceNeg, h1, h2] <;> rfl) | rfl) (by first | (simp only [D, DT, reduceIte, reduceCtorEq, Nat.reduceEqDiff, Nat.reduceAdd, Nat.reduceLT, Nat.reduceLeDiff, Nat.reduceBEq, Int.reduceLE, Int.reduceLT, Int.reduceEq, Int.reduceNeg, h1, h2] <;> rfl) | rfl) (by first | (simp only [D, DT, reduceIte, reduceCtorEq, Nat.reduceEqDiff, Nat.reduceAdd, Nat.reduceLT, Nat.reduceLeDiff, Nat.reduceBEq, Int.reduceLE, Int.reduceLT, Int.reduceEq, Int.reduceNeg, h1, h2] <;> rfl) | rfl)) ?_
      · intro e_16 H_16
        simp only [D, DT, reduceIte, reduceCtorEq, Nat.reduceEqDiff, Nat.reduceAdd, Nat.reduceLT, Nat.reduceLeDiff, Nat.reduceBEq, Int.reduceLE, Int.reduceLT, Int.reduceEq, Int.reduceNeg, meta_key.a0, h1, h2]
        try rfl
      · intro v12_6 e_17 H_17 g6_12_17
        simp only [D, DT, reduceIte, reduceCtorEq, Nat.reduceEqDiff, Nat.reduceAdd, Nat.reduceLT, Nat.reduceLeDiff, Nat.reduceBEq, Int.reduceLE, Int.reduceLT, Int.reduceEq, Int.reduceNeg, meta_key.a0, h1, h2, g6_12_17]
        try rfl
      exact mb _ _ _
  · simp only [D, DT, reduceIte, reduceCtorEq, Nat.reduceEqDiff, Nat.reduceAdd, Nat.reduceLT, Nat.reduceLeDiff, Nat.reduceBEq, Int.reduceLE, Int.reduceLT, Int.reduceEq, Int.reduceNeg, h1]
    try rfl
inductive mandolineref14_Key.l0X where
  | x0
  | ret
noncomputable def mandolineref14_Key.l0B (a0 : (List UInt8)) (v7_3 : Int) : Option (Step (Int) mandolineref14_Key.l0X) :=
  bif (decide (v7_3 < (a0.length : Int))) then
    (idx a0 v7_3).bind fun x17 =>
    bif (decide ((x17.toNat : Int) < 33)) then
      some (.done (.ret))
    else
      bif (decide ((126 : Int) < (x17.toNat : Int))) then
        some (.done (.ret))
      else
        some (.next (IntKind.i64.wrap (v7_3 + 1)))
  else
    some (.done (.x0))
set_option maxHeartbeats 4000000 in
theorem mandolineref14_Key.l0_ok {α : Type} {F : Env → Heap → Option α} {K : List Fr} (fin : mandolineref14_Key.l0X → Option α) (a0 : (List UInt8))
    (hx0 : ∀ (e : Env) (H : Heap), e 0 = (.str a0) → outL X [] F K e H 0 = fin (.x0))
    (hret : ∀ (e : Env) (H : Heap), e 2 = (.bool false) → F e H = fin (.ret)) (v7_3 : Int) (e : Env) (H : Heap) (g0_7 : e 0 = (.str a0)) (g3_7 : e 3 = (.int .i64 v7_3)) :
    runL X [] F (.c (.loop c50_l0) :: K) e H = (loopL (mandolineref14_Key.l0B a0) v7_3).bind fin := by
  refine loop_of (R := fun (v7_3 : Int) (e : Env) (H : Heap) => e 0 = (.str a0) ∧ e 3 = (.int .i64 v7_3)) fin ?_ ⟨g0_7, g3_7⟩
  clear g3_7 g0_7 e H v7_3
  intro n G hn hd s e H hR
  revert hR; revert s; intro v7_3 hR
  obtain ⟨g0_7, g3_7⟩ := hR
  simp only [D, DT, reduceIte, reduceCtorEq, Nat.reduceEqDiff, Nat.reduceAdd, Nat.reduceLT, Nat.reduceLeDiff, Nat.reduceBEq, Int.reduceLE, Int.reduceLT, Int.reduceEq, Int.reduceNeg, mandolineref14_Key.l0B, g0_7, g3_7, c50_l0]
  cases h15 : (decide (v7_3 < (a0.length : Int)))
  · simp only [D, DT, reduceIte, reduceCtorEq, Nat.reduceEqDiff, Nat.reduceAdd, Nat.reduceLT, Nat.reduceLeDiff, Nat.reduceBEq, Int.reduceLE, Int.reduceLT, Int.reduceEq, Int.reduceNeg, g0_7, g3_7, c50_l0, h15]
    exact (hx0 _ _ (by first | (simp only [D, DT, reduceIte, reduceCtorEq, Nat.reduceEqDiff, Nat.reduceAdd, Nat.reduceLT, Nat.reduceLeDiff, Nat.reduceBEq, Int.reduceLE, Int.reduceLT, Int.reduceEq, Int.reduceNeg, g0_7, g3_7, c50_l0, h15] <;> rfl) | rfl)).trans (hd _).symm
  · simp only [D, DT, reduceIte, reduceCtorEq, Nat.reduceEqDiff, Nat.reduceAdd, Nat.reduceLT, Nat.reduceLeDiff, Nat.reduceBEq, Int.reduceLE, Int.reduceLT, Int.reduceEq, Int.reduceNeg, g0_7, g3_7, c50_l0, h15]
    rcases h16 : idx a0 v7_3 with _ | x17
    · simp only [D, DT, reduceIte, reduceCtorEq, Nat.reduceEqDiff, Nat.reduceAdd, Nat.reduceLT, Nat.reduceLeDiff, Nat.reduceBEq, Int.reduceLE, Int.reduceLT, Int.reduceEq, Int.reduceNeg, g0_7, g3_7, c50_l0, h15, h16]
    · simp only [D, DT, reduceIte, reduceCtorEq, Nat.reduceEqDiff, Nat.reduceAdd, Nat.reduceLT, Nat.reduceLeDiff, Nat.reduceBEq, Int.reduceLE, Int.reduceLT, Int.reduceEq, Int.reduceNeg, g0_7, g3_7, c50_l0, h15, h16]
      cases h18 : (decide ((x17.toNat : Int) < 33))
      · simp only [D, DT, reduceIte, reduceCtorEq, Nat.reduceEqDiff, Nat.reduceAdd, Nat.reduceLT, Nat.reduceLeDiff, Nat.reduceBEq, Int.reduceLE, Int.reduceLT, Int.reduceEq, Int.reduceNeg, g0_7, g3_7, c50_l0, h15, h16, h18]
        cases h19 : (decide ((126 : Int) < (x17.toNat : Int)))
        · simp only [D, DT, reduceIte, reduceCtorEq, Nat.reduceEqDiff, Nat.reduceAdd, Nat.reduceLT, Nat.reduceLeDiff, Nat.reduceBEq, Int.reduceLE, Int.reduceLT, Int.reduceEq, Int.reduceNeg, g0_7, g3_7, c50_l0, h15, h16, h18, h19]
          exact hn _ _ _ ⟨(by first | (simp only [D, DT, reduceIte, reduceCtorEq, Nat.reduceEqDiff, Nat.reduceAdd, Nat.reduceLT, Nat.reduceLeDiff, Nat.reduceBEq, Int.reduceLE, Int.reduceLT, Int.reduceEq, Int.reduceNeg, g0_7, g3_7, c50_l0, h15, h16, h18, h19] <;> rfl) | rfl), (by first | (simp only [D, DT, reduceIte, reduceCtorEq, Nat.reduceEqDiff, Nat.reduceAdd, Nat.reduceLT, Nat.reduceLeDiff, Nat.reduceBEq, Int.reduceLE, Int.reduceLT, Int.reduceEq, Int.reduceNeg, g0_7, g3_7, c50_l0, h15, h16, h18, h19] <;> rfl) | rfl)⟩
        · simp only [D, DT, reduceIte, reduceCtorEq, Nat.reduceEqDiff, Nat.reduceAdd, Nat.reduceLT, Nat.reduceLeDiff, Nat.reduceBEq, Int.reduceLE, Int.reduceLT, Int.reduceEq, Int.reduceNeg, g0_7, g3_7, c50_l0, h15, h16, h18, h19]
          exact (hret _ _ (by first | (simp only [D, DT, reduceIte, reduceCtorEq, Nat.reduceEqDiff, Nat.reduceAdd, Nat.reduceLT, Nat.reduceLeDiff, Nat.reduceBEq, Int.reduceLE, Int.reduceLT, Int.reduceEq, Int.reduceNeg, g0_7, g3_7, c50_l0, h15, h16, h18, h19] <;> rfl) | rfl)).trans (hd _).symm
      · simp only [D, DT, reduceIte, reduceCtorEq, Nat.reduceEqDiff, Nat.reduceAdd, Nat.reduceLT, Nat.reduceLeDiff, Nat.reduceBEq, Int.reduceLE, Int.reduceLT, Int.reduceEq, Int.reduceNeg, g0_7, g3_7, c50_l0, h15, h16, h18]
        exact (hret _ _ (by first | (simp only [D, DT, reduceIte, reduceCtorEq, Nat.reduceEqDiff, Nat.reduceAdd, Nat.reduceLT, Nat.reduceLeDiff, Nat.reduceBEq, Int.reduceLE, Int.reduceLT, Int.reduceEq, Int.reduceNeg, g0_7, g3_7, c50_l0, h15, h16, h18] <;> rfl) | rfl)).trans (hd _).symm
noncomputable def mandolineref14_Key.a0 (a0 : (List UInt8)) : mandolineref14_Key.l0X → Option Bool
  | .x0 =>
    bif (decide ((0 : Int) < (a0.length : Int))) then
      some (decide ((a0.length : Int) ≤ 200))
    else
      some false
  | .ret =>
    some false
noncomputable def mandolineref14_Key.f (a0 : (List UInt8)) : Option Bool :=
  (loopL (mandolineref14_Key.l0B a0) 0).bind (mandolineref14_Key.a0 a0)
set_option maxHeartbeats 4000000 in
theorem mandolineref14_Key.ok (a0 : (List UInt8)) : ansL X 50 [(.str a0)] = Option.map AV.bool (mandolineref14_Key.f a0) := by
  rw [ansL_run (fd := c50) rfl rfl]
  simp only [D, DT, reduceIte, reduceCtorEq, Nat.reduceEqDiff, Nat.reduceAdd, Nat.reduceLT, Nat.reduceLeDiff, Nat.reduceBEq, Int.reduceLE, Int.reduceLT, Int.reduceEq, Int.reduceNeg, c50, mandolineref14_Key.f]
  refine Eq.trans (mandolineref14_Key.l0_ok (fun x => Option.map AV.bool (mandolineref14_Key.a0 a0 x)) a0 ?_ ?_ 0 _ _ (by first | (simp only [D, DT, reduceIte, reduceCtorEq, Nat.reduceEqDiff, Nat.reduceAdd, Nat.reduceLT, Nat.reduceLeDiff, Nat.reduceBEq, Int.reduceLE, Int.reduceLT, Int.reduceEq, Int.reduceNeg] <;> rfl) | rfl) (by first | (simp only [D, DT, reduceIte, reduceCtorEq, Nat.reduceEqDiff, Nat.reduceAdd, Nat.reduceLT, Nat.reduceLeDiff, Nat.reduceBEq, Int.reduceLE, Int.reduceLT, Int.reduceEq, Int.reduceNeg] <;> rfl) | rfl)) ?_
  · intro e_20 H_20 g0_13_20
    simp only [D, DT, reduceIte, reduceCtorEq, Nat.reduceEqDiff, Nat.reduceAdd, Nat.reduceLT, Nat.reduceLeDiff, Nat.reduceBEq, Int.reduceLE, Int.reduceLT, Int.reduceEq, Int.reduceNeg, mandolineref14_Key.a0, g0_13_20]
    cases h21 : (decide ((0 : Int) < (a0.length : Int)))
    · simp only [D, DT, reduceIte, reduceCtorEq, Nat.reduceEqDiff, Nat.reduceAdd, Nat.reduceLT, Nat.reduceLeDiff, Nat.reduceBEq, Int.reduceLE, Int.reduceLT, Int.reduceEq, Int.reduceNeg, g0_13_20, h21]
      try rfl
    · simp only [D, DT, reduceIte, reduceCtorEq, Nat.reduceEqDiff, Nat.reduceAdd, Nat.reduceLT, Nat.reduceLeDiff, Nat.reduceBEq, Int.reduceLE, Int.reduceLT, Int.reduceEq, Int.reduceNeg, g0_13_20, h21]
      try rfl
  · intro e_22 H_22 g2_14_22
    simp only [D, DT, reduceIte, reduceCtorEq, Nat.reduceEqDiff, Nat.reduceAdd, Nat.reduceLT, Nat.reduceLeDiff, Nat.reduceBEq, Int.reduceLE, Int.reduceLT, Int.reduceEq, Int.reduceNeg, mandolineref14_Key.a0, g2_14_22]
    try rfl
  exact mb _ _ _
inductive mandolineref14_Tenant.l0X where
  | x0
  | ret
noncomputable def mandolineref14_Tenant.l0B (a0 : (List UInt8)) (v35_3 : Int) : Option (Step (Int) mandolineref14_Tenant.l0X) :=
  bif (decide (v35_3 < (a0.length : Int))) then
    (idx a0 v35_3).bind fun x81 =>
    bif (decide ((x81.toNat : Int) < 97)) then
      bif (decide ((x81.toNat : Int) < 65)) then
        bif (decide ((x81.toNat : Int) < 48)) then
          bif (decide ((x81.toNat : Int) = 95)) then
            some (.next (IntKind.i64.wrap (v35_3 + 1)))
          else
            bif (decide ((x81.toNat : Int) = 45)) then
              bif (decide (v35_3 = 0)) then
                some (.done (.ret))
              else
                some (.next (IntKind.i64.wrap (v35_3 + 1)))
            else
              some (.done (.ret))
        else
          bif (decide ((57 : Int) < (x81.toNat : Int))) then
            bif (decide ((x81.toNat : Int) = 95)) then
              some (.next (IntKind.i64.wrap (v35_3 + 1)))
            else
              bif (decide ((x81.toNat : Int) = 45)) then
                bif (decide (v35_3 = 0)) then
                  some (.done (.ret))
                else
                  some (.next (IntKind.i64.wrap (v35_3 + 1)))
              else
                some (.done (.ret))
          else
            some (.next (IntKind.i64.wrap (v35_3 + 1)))
      else
        bif (decide ((90 : Int) < (x81.toNat : Int))) then
          bif (decide ((x81.toNat : Int) < 48)) then
            bif (decide ((x81.toNat : Int) = 95)) then
              some (.next (IntKind.i64.wrap (v35_3 + 1)))
            else
              bif (decide ((x81.toNat : Int) = 45)) then
                bif (decide (v35_3 = 0)) then
                  some (.done (.ret))
                else
                  some (.next (IntKind.i64.wrap (v35_3 + 1)))
              else
                some (.done (.ret))
          else
            bif (decide ((57 : Int) < (x81.toNat : Int))) then
              bif (decide ((x81.toNat : Int) = 95)) then
                some (.next (IntKind.i64.wrap (v35_3 + 1)))
              else
                bif (decide ((x81.toNat : Int) = 45)) then
                  bif (decide (v35_3 = 0)) then
                    some (.done (.ret))
                  else
                    some (.next (IntKind.i64.wrap (v35_3 + 1)))
                else
                  some (.done (.ret))
            else
              some (.next (IntKind.i64.wrap (v35_3 + 1)))
        else
          some (.next (IntKind.i64.wrap (v35_3 + 1)))
    else
      bif (decide ((122 : Int) < (x81.toNat : Int))) then
        bif (decide ((x81.toNat : Int) < 65)) then
          bif (decide ((x81.toNat : Int) < 48)) then
            bif (decide ((x81.toNat : Int) = 95)) then
              some (.next (IntKind.i64.wrap (v35_3 + 1)))
            else
              bif (decide ((x81.toNat : Int) = 45)) then
                bif (decide (v35_3 = 0)) then
                  some (.done (.ret))
                else
                  some (.next (IntKind.i64.wrap (v35_3 + 1)))
              else
                some (.done (.ret))
          else
            bif (decide ((57 : Int) < (x81.toNat : Int))) then
              bif (decide ((x81.toNat : Int) = 95)) then
                some (.next (IntKind.i64.wrap (v35_3 + 1)))
              else
                bif (decide ((x81.toNat : Int) = 45)) then
                  bif (decide (v35_3 = 0)) then
                    some (.done (.ret))
                  else
                    some (.next (IntKind.i64.wrap (v35_3 + 1)))
                else
                  some (.done (.ret))
            else
              some (.next (IntKind.i64.wrap (v35_3 + 1)))
        else
          bif (decide ((90 : Int) < (x81.toNat : Int))) then
            bif (decide ((x81.toNat : Int) < 48)) then
              bif (decide ((x81.toNat : Int) = 95)) then
                some (.next (IntKind.i64.wrap (v35_3 + 1)))
              else
                bif (decide ((x81.toNat : Int) = 45)) then
                  bif (decide (v35_3 = 0)) then
                    some (.done (.ret))
                  else
                    some (.next (IntKind.i64.wrap (v35_3 + 1)))
                else
                  some (.done (.ret))
            else
              bif (decide ((57 : Int) < (x81.toNat : Int))) then
                bif (decide ((x81.toNat : Int) = 95)) then
                  some (.next (IntKind.i64.wrap (v35_3 + 1)))
                else
                  bif (decide ((x81.toNat : Int) = 45)) then
                    bif (decide (v35_3 = 0)) then
                      some (.done (.ret))
                    else
                      some (.next (IntKind.i64.wrap (v35_3 + 1)))
                  else
                    some (.done (.ret))
              else
                some (.next (IntKind.i64.wrap (v35_3 + 1)))
          else
            some (.next (IntKind.i64.wrap (v35_3 + 1)))
      else
        some (.next (IntKind.i64.wrap (v35_3 + 1)))
  else
    some (.done (.x0))
set_option maxHeartbeats 4000000 in
theorem mandolineref14_Tenant.l0_ok {α : Type} {F : Env → Heap → Option α} {K : List Fr} (fin : mandolineref14_Tenant.l0X → Option α) (a0 : (List UInt8))
    (hx0 : ∀ (e : Env) (H : Heap), e 0 = (.str a0) → outL X [] F K e H 0 = fin (.x0))
    (hret : ∀ (e : Env) (H : Heap), e 2 = (.bool false) → F e H = fin (.ret)) (v35_3 : Int) (e : Env) (H : Heap) (g0_35 : e 0 = (.str a0)) (g3_35 : e 3 = (.int .i64 v35_3)) :
    runL X [] F (.c (.loop c27_l0) :: K) e H = (loopL (mandolineref14_Tenant.l0B a0) v35_3).bind fin := by
  refine loop_of (R := fun (v35_3 : Int) (e : Env) (H : Heap) => e 0 = (.str a0) ∧ e 3 = (.int .i64 v35_3)) fin ?_ ⟨g0_35, g3_35⟩
  clear g3_35 g0_35 e H v35_3
  intro n G hn hd s e H hR
  revert hR; revert s; intro v35_3 hR
  obtain ⟨g0_35, g3_35⟩ := hR
  simp only [D, DT, reduceIte, reduceCtorEq, Nat.reduceEqDiff, Nat.reduceAdd, Nat.reduceLT, Nat.reduceLeDiff, Nat.reduceBEq, Int.reduceLE, Int.reduceLT, Int.reduceEq, Int.reduceNeg, mandolineref14_Tenant.l0B, g0_35, g3_35, c27_l0]
  cases h79 : (decide (v35_3 < (a0.length : Int)))
  · simp only [D, DT, reduceIte, reduceCtorEq, Nat.reduceEqDiff, Nat.reduceAdd, Nat.reduceLT, Nat.reduceLeDiff, Nat.reduceBEq, Int.reduceLE, Int.reduceLT, Int.reduceEq, Int.reduceNeg, g0_35, g3_35, c27_l0, h79]
    exact (hx0 _ _ (by first | (simp only [D, DT, reduceIte, reduceCtorEq, Nat.reduceEqDiff, Nat.reduceAdd, Nat.reduceLT, Nat.reduceLeDiff, Nat.reduceBEq, Int.reduceLE, Int.reduceLT, Int.reduceEq, Int.reduceNeg, g0_35, g3_35, c27_l0, h79] <;> rfl) | rfl)).trans (hd _).symm
  · simp only [D, DT, reduceIte, reduceCtorEq, Nat.reduceEqDiff, Nat.reduceAdd, Nat.reduceLT, Nat.reduceLeDiff, Nat.reduceBEq, Int.reduceLE, Int.reduceLT, Int.reduceEq, Int.reduceNeg, g0_35, g3_35, c27_l0, h79]
    rcases h80 : idx a0 v35_3 with _ | x81
    · simp only [D, DT, reduceIte, reduceCtorEq, Nat.reduceEqDiff, Nat.reduceAdd, Nat.reduceLT, Nat.reduceLeDiff, Nat.reduceBEq, Int.reduceLE, Int.reduceLT, Int.reduceEq, Int.reduceNeg, g0_35, g3_35, c27_l0, h79, h80]
    · simp only [D, DT, reduceIte, reduceCtorEq, Nat.reduceEqDiff, Nat.reduceAdd, Nat.reduceLT, Nat.reduceLeDiff, Nat.reduceBEq, Int.reduceLE, Int.reduceLT, Int.reduceEq, Int.reduceNeg, g0_35, g3_35, c27_l0, h79, h80]
      cases h82 : (decide ((x81.toNat : Int) < 97))
      · simp only [D, DT, reduceIte, reduceCtorEq, Nat.reduceEqDiff, Nat.reduceAdd, Nat.reduceLT, Nat.reduceLeDiff, Nat.reduceBEq, Int.reduceLE, Int.reduceLT, Int.reduceEq, Int.reduceNeg, g0_35, g3_35, c27_l0, h79, h80, h82]
        cases h83 : (decide ((122 : Int) < (x81.toNat : Int)))
        · simp only [D, DT, reduceIte, reduceCtorEq, Nat.reduceEqDiff, Nat.reduceAdd, Nat.reduceLT, Nat.reduceLeDiff, Nat.reduceBEq, Int.reduceLE, Int.reduceLT, Int.reduceEq, Int.reduceNeg, g0_35, g3_35, c27_l0, h79, h80, h82, h83]
          exact hn _ _ _ ⟨(by first | (simp only [D, DT, reduceIte, reduceCtorEq, Nat.reduceEqDiff, Nat.reduceAdd, Nat.reduceLT, Nat.reduceLeDiff, Nat.reduceBEq, Int.reduceLE, Int.reduceLT, Int.reduceEq, Int.reduceNeg, g0_35, g3_35, c27_l0, h79, h80, h82, h83] <;> rfl) | rfl), (by first | (simp only [D, DT, reduceIte, reduceCtorEq, Nat.reduceEqDiff, Nat.reduceAdd, Nat.reduceLT, Nat.reduceLeDiff, Nat.reduceBEq, Int.reduceLE, Int.reduceLT, Int.reduceEq, Int.reduceNeg, g0_35, g3_35, c27_l0, h79, h80, h82, h83] <;> rfl) | rfl)⟩
        · simp only [D, DT, reduceIte, reduceCtorEq, Nat.reduceEqDiff, Nat.reduceAdd, Nat.reduceLT, Nat.reduceLeDiff, Nat.reduceBEq, Int.reduceLE, Int.reduceLT, Int.reduceEq, Int.reduceNeg, g0_35, g3_35, c27_l0, h79, h80, h82, h83]
          cases h84 : (decide ((x81.toNat : Int) < 65))
          · simp only [D, DT, reduceIte, reduceCtorEq, Nat.reduceEqDiff, Nat.reduceAdd, Nat.reduceLT, Nat.reduceLeDiff, Nat.reduceBEq, Int.reduceLE, Int.reduceLT, Int.reduceEq, Int.reduceNeg, g0_35, g3_35, c27_l0, h79, h80, h82, h83, h84]
            cases h85 : (decide ((90 : Int) < (x81.toNat : Int)))
            · simp only [D, DT, reduceIte, reduceCtorEq, Nat.reduceEqDiff, Nat.reduceAdd, Nat.reduceLT, Nat.reduceLeDiff, Nat.reduceBEq, Int.reduceLE, Int.reduceLT, Int.reduceEq, Int.reduceNeg, g0_35, g3_35, c27_l0, h79, h80, h82, h83, h84, h85]
              exact hn _ _ _ ⟨(by first | (simp only [D, DT, reduceIte, reduceCtorEq, Nat.reduceEqDiff, Nat.reduceAdd, Nat.reduceLT, Nat.reduceLeDiff, Nat.reduceBEq, Int.reduceLE, Int.reduceLT, Int.reduceEq, Int.reduceNeg, g0_35, g3_35, c27_l0, h79, h80, h82, h83, h84, h85] <;> rfl) | rfl), (by first | (simp only [D, DT, reduceIte, reduceCtorEq, Nat.reduceEqDiff, Nat.reduceAdd, Nat.reduceLT, Nat.reduceLeDiff, Nat.reduceBEq, Int.reduceLE, Int.reduceLT, Int.reduceEq, Int.reduceNeg, g0_35, g3_35, c27_l0, h79, h80, h82, h83, h84, h85] <;> rfl) | rfl)⟩
            · simp only [D, DT, reduceIte, reduceCtorEq, Nat.reduceEqDiff, Nat.reduceAdd, Nat.reduceLT, Nat.reduceLeDiff, Nat.reduceBEq, Int.reduceLE, Int.reduceLT, Int.reduceEq, Int.reduceNeg, g0_35, g3_35, c27_l0, h79, h80, h82, h83, h84, h85]
              cases h86 : (decide ((x81.toNat : Int) < 48))
              · simp only [D, DT, reduceIte, reduceCtorEq, Nat.reduceEqDiff, Nat.reduceAdd, Nat.reduceLT, Nat.reduceLeDiff, Nat.reduceBEq, Int.reduceLE, Int.reduceLT, Int.reduceEq, Int.reduceNeg, g0_35, g3_35, c27_l0, h79, h80, h82, h83, h84, h85, h86]
                cases h87 : (decide ((57 : Int) < (x81.toNat : Int)))
                · simp only [D, DT, reduceIte, reduceCtorEq, Nat.reduceEqDiff, Nat.reduceAdd, Nat.reduceLT, Nat.reduceLeDiff, Nat.reduceBEq, Int.reduceLE, Int.reduceLT, Int.reduceEq, Int.reduceNeg, g0_35, g3_35, c27_l0, h79, h80, h82, h83, h84, h85, h86, h87]
                  exact hn _ _ _ ⟨(by first | (simp only [D, DT, reduceIte, reduceCtorEq, Nat.reduceEqDiff, Nat.reduceAdd, Nat.reduceLT, Nat.reduceLeDiff, Nat.reduceBEq, Int.reduceLE, Int.reduceLT, Int.reduceEq, Int.reduceNeg, g0_35, g3_35, c27_l0, h79, h80, h82, h83, h84, h85, h86, h87] <;> rfl) | rfl), (by first | (simp only [D, DT, reduceIte, reduceCtorEq, Nat.reduceEqDiff, Nat.reduceAdd, Nat.reduceLT, Nat.reduceLeDiff, Nat.reduceBEq, Int.reduceLE, Int.reduceLT, Int.reduceEq, Int.reduceNeg, g0_35, g3_35, c27_l0, h79, h80, h82, h83, h84, h85, h86, h87] <;> rfl) | rfl)⟩
                · simp only [D, DT, reduceIte, reduceCtorEq, Nat.reduceEqDiff, Nat.reduceAdd, Nat.reduceLT, Nat.reduceLeDiff, Nat.reduceBEq, Int.reduceLE, Int.reduceLT, Int.reduceEq, Int.reduceNeg, g0_35, g3_35, c27_l0, h79, h80, h82, h83, h84, h85, h86, h87]
                  cases h88 : (decide ((x81.toNat : Int) = 95))
                  · simp only [D, DT, reduceIte, reduceCtorEq, Nat.reduceEqDiff, Nat.reduceAdd, Nat.reduceLT, Nat.reduceLeDiff, Nat.reduceBEq, Int.reduceLE, Int.reduceLT, Int.reduceEq, Int.reduceNeg, g0_35, g3_35, c27_l0, h79, h80, h82, h83, h84, h85, h86, h87, h88]
                    cases h89 : (decide ((x81.toNat : Int) = 45))
                    · simp only [D, DT, reduceIte, reduceCtorEq, Nat.reduceEqDiff, Nat.reduceAdd, Nat.reduceLT, Nat.reduceLeDiff, Nat.reduceBEq, Int.reduceLE, Int.reduceLT, Int.reduceEq, Int.reduceNeg, g0_35, g3_35, c27_l0, h79, h80, h82, h83, h84, h85, h86, h87, h88, h89]
                      exact (hret _ _ (by first | (simp only [D, DT, reduceIte, reduceCtorEq, Nat.reduceEqDiff, Nat.reduceAdd, Nat.reduceLT, Nat.reduceLeDiff, Nat.reduceBEq, Int.reduceLE, Int.reduceLT, Int.reduceEq, Int.reduceNeg, g0_35, g3_35, c27_l0, h79, h80, h82, h83, h84, h85, h86, h87, h88, h89] <;> rfl) | rfl)).trans (hd _).symm
                    · simp only [D, DT, reduceIte, reduceCtorEq, Nat.reduceEqDiff, Nat.reduceAdd, Nat.reduceLT, Nat.reduceLeDiff, Nat.reduceBEq, Int.reduceLE, Int.reduceLT, Int.reduceEq, Int.reduceNeg, g0_35, g3_35, c27_l0, h79, h80, h82, h83, h84, h85, h86, h87, h88, h89]
                      cases h90 : (decide (v35_3 = 0))
                      · simp only [D, DT, reduceIte, reduceCtorEq, Nat.reduceEqDiff, Nat.reduceAdd, Nat.reduceLT, Nat.reduceLeDiff, Nat.reduceBEq, Int.reduceLE, Int.reduceLT, Int.reduceEq, Int.reduceNeg, g0_35, g3_35, c27_l0, h79, h80, h82, h83, h84, h85, h86, h87, h88, h89, h90]
                        exact hn _ _ _ ⟨(by first | (simp only [D, DT, reduceIte, reduceCtorEq, Nat.reduceEqDiff, Nat.reduceAdd, Nat.reduceLT, Nat.reduceLeDiff, Nat.reduceBEq, Int.reduceLE, Int.reduceLT, Int.reduceEq, Int.reduceNeg, g0_35, g3_35, c27_l0, h79, h80, h82, h83, h84, h85, h86, h87, h88, h89, h90] <;> rfl) | rfl), (by first | (simp only [D, DT, reduceIte, reduceCtorEq, Nat.reduceEqDiff, Nat.reduceAdd, Nat.reduceLT, Nat.reduceLeDiff, Nat.reduceBEq, Int.reduceLE, Int.reduceLT, Int.reduceEq, Int.reduceNeg, g0_35, g3_35, c27_l0, h79, h80, h82, h83, h84, h85, h86, h87, h88, h89, h90] <;> rfl) | rfl)⟩
                      · simp only [D, DT, reduceIte, reduceCtorEq, Nat.reduceEqDiff, Nat.reduceAdd, Nat.reduceLT, Nat.reduceLeDiff, Nat.reduceBEq, Int.reduceLE, Int.reduceLT, Int.reduceEq, Int.reduceNeg, g0_35, g3_35, c27_l0, h79, h80, h82, h83, h84, h85, h86, h87, h88, h89, h90]
                        exact (hret _ _ (by first | (simp only [D, DT, reduceIte, reduceCtorEq, Nat.reduceEqDiff, Nat.reduceAdd, Nat.reduceLT, Nat.reduceLeDiff, Nat.reduceBEq, Int.reduceLE, Int.reduceLT, Int.reduceEq, Int.reduceNeg, g0_35, g3_35, c27_l0, h79, h80, h82, h83, h84, h85, h86, h87, h88, h89, h90] <;> rfl) | rfl)).trans (hd _).symm
                  · simp only [D, DT, reduceIte, reduceCtorEq, Nat.reduceEqDiff, Nat.reduceAdd, Nat.reduceLT, Nat.reduceLeDiff, Nat.reduceBEq, Int.reduceLE, Int.reduceLT, Int.reduceEq, Int.reduceNeg, g0_35, g3_35, c27_l0, h79, h80, h82, h83, h84, h85, h86, h87, h88]
                    exact hn _ _ _ ⟨(by first | (simp only [D, DT, reduceIte, reduceCtorEq, Nat.reduceEqDiff, Nat.reduceAdd, Nat.reduceLT, Nat.reduceLeDiff, Nat.reduceBEq, Int.reduceLE, Int.reduceLT, Int.reduceEq, Int.reduceNeg, g0_35, g3_35, c27_l0, h79, h80, h82, h83, h84, h85, h86, h87, h88] <;> rfl) | rfl), (by first | (simp only [D, DT, reduceIte, reduceCtorEq, Nat.reduceEqDiff, Nat.reduceAdd, Nat.reduceLT, Nat.reduceLeDiff, Nat.reduceBEq, Int.reduceLE, Int.reduceLT, Int.reduceEq, Int.reduceNeg, g0_35, g3_35, c27_l0, h79, h80, h82, h83, h84, h85, h86, h87, h88] <;> rfl) | rfl)⟩
              · simp only [D, DT, reduceIte, reduceCtorEq, Nat.reduceEqDiff, Nat.reduceAdd, Nat.reduceLT, Nat.reduceLeDiff, Nat.reduceBEq, Int.reduceLE, Int.reduceLT, Int.reduceEq, Int.reduceNeg, g0_35, g3_35, c27_l0, h79, h80, h82, h83, h84, h85, h86]
                cases h91 : (decide ((x81.toNat : Int) = 95))
                · simp only [D, DT, reduceIte, reduceCtorEq, Nat.reduceEqDiff, Nat.reduceAdd, Nat.reduceLT, Nat.reduceLeDiff, Nat.reduceBEq, Int.reduceLE, Int.reduceLT, Int.reduceEq, Int.reduceNeg, g0_35, g3_35, c27_l0, h79, h80, h82, h83, h84, h85, h86, h91]
                  cases h92 : (decide ((x81.toNat : Int) = 45))
                  · simp only [D, DT, reduceIte, reduceCtorEq, Nat.reduceEqDiff, Nat.reduceAdd, Nat.reduceLT, Nat.reduceLeDiff, Nat.reduceBEq, Int.reduceLE, Int.reduceLT, Int.reduceEq, Int.reduceNeg, g0_35, g3_35, c27_l0, h79, h80, h82, h83, h84, h85, h86, h91, h92]
                    exact (hret _ _ (by first | (simp only [D, DT, reduceIte, reduceCtorEq, Nat.reduceEqDiff, Nat.reduceAdd, Nat.reduceLT, Nat.reduceLeDiff, Nat.reduceBEq, Int.reduceLE, Int.reduceLT, Int.reduceEq, Int.reduceNeg, g0_35, g3_35, c27_l0, h79, h80, h82, h83, h84, h85, h86, h91, h92] <;> rfl) | rfl)).trans (hd _).symm
                  · simp only [D, DT, reduceIte, reduceCtorEq, Nat.reduceEqDiff, Nat.reduceAdd, Nat.reduceLT, Nat.reduceLeDiff, Nat.reduceBEq, Int.reduceLE, Int.reduceLT, Int.reduceEq, Int.reduceNeg, g0_35, g3_35, c27_l0, h79, h80, h82, h83, h84, h85, h86, h91, h92]
                    cases h93 : (decide (v35_3 = 0))
                    · simp only [D, DT, reduceIte, reduceCtorEq, Nat.reduceEqDiff, Nat.reduceAdd, Nat.reduceLT, Nat.reduceLeDiff, Nat.reduceBEq, Int.reduceLE, Int.reduceLT, Int.reduceEq, Int.reduceNeg, g0_35, g3_35, c27_l0, h79, h80, h82, h83, h84, h85, h86, h91, h92, h93]
                      exact hn _ _ _ ⟨(by first | (simp only [D, DT, reduceIte, reduceCtorEq, Nat.reduceEqDiff, Nat.reduceAdd, Nat.reduceLT, Nat.reduceLeDiff, Nat.reduceBEq, Int.reduceLE, Int.reduceLT, Int.reduceEq, Int.reduceNeg, g0_35, g3_35, c27_l0, h79, h80, h82, h83, h84, h85, h86, h91, h92, h93] <;> rfl) | rfl), (by first | (simp only [D, DT, reduceIte, reduceCtorEq, Nat.reduceEqDiff, Nat.reduceAdd, Nat.reduceLT, Nat.reduceLeDiff, Nat.reduceBEq, Int.reduceLE, Int.reduceLT, Int.reduceEq, Int.reduceNeg, g0_35, g3_35, c27_l0, h79, h80, h82, h83, h84, h85, h86, h91, h92, h93] <;> rfl) | rfl)⟩
                    · simp only [D, DT, reduceIte, reduceCtorEq, Nat.reduceEqDiff, Nat.reduceAdd, Nat.reduceLT, Nat.reduceLeDiff, Nat.reduceBEq, Int.reduceLE, Int.reduceLT, Int.reduceEq, Int.reduceNeg, g0_35, g3_35, c27_l0, h79, h80, h82, h83, h84, h85, h86, h91, h92, h93]
                      exact (hret _ _ (by first | (simp only [D, DT, reduceIte, reduceCtorEq, Nat.reduceEqDiff, Nat.reduceAdd, Nat.reduceLT, Nat.reduceLeDiff, Nat.reduceBEq, Int.reduceLE, Int.reduceLT, Int.reduceEq, Int.reduceNeg, g0_35, g3_35, c27_l0, h79, h80, h82, h83, h84, h85, h86, h91, h92, h93] <;> rfl) | rfl)).trans (hd _).symm
                · simp only [D, DT, reduceIte, reduceCtorEq, Nat.reduceEqDiff, Nat.reduceAdd, Nat.reduceLT, Nat.reduceLeDiff, Nat.reduceBEq, Int.reduceLE, Int.reduceLT, Int.reduceEq, Int.reduceNeg, g0_35, g3_35, c27_l0, h79, h80, h82, h83, h84, h85, h86, h91]
                  exact hn _ _ _ ⟨(by first | (simp only [D, DT, reduceIte, reduceCtorEq, Nat.reduceEqDiff, Nat.reduceAdd, Nat.reduceLT, Nat.reduceLeDiff, Nat.reduceBEq, Int.reduceLE, Int.reduceLT, Int.reduceEq, Int.reduceNeg, g0_35, g3_35, c27_l0, h79, h80, h82, h83, h84, h85, h86, h91] <;> rfl) | rfl), (by first | (simp only [D, DT, reduceIte, reduceCtorEq, Nat.reduceEqDiff, Nat.reduceAdd, Nat.reduceLT, Nat.reduceLeDiff, Nat.reduceBEq, Int.reduceLE, Int.reduceLT, Int.reduceEq, Int.reduceNeg, g0_35, g3_35, c27_l0, h79, h80, h82, h83, h84, h85, h86, h91] <;> rfl) | rfl)⟩
          · simp only [D, DT, reduceIte, reduceCtorEq, Nat.reduceEqDiff, Nat.reduceAdd, Nat.reduceLT, Nat.reduceLeDiff, Nat.reduceBEq, Int.reduceLE, Int.reduceLT, Int.reduceEq, Int.reduceNeg, g0_35, g3_35, c27_l0, h79, h80, h82, h83, h84]
            cases h94 : (decide ((x81.toNat : Int) < 48))
            · simp only [D, DT, reduceIte, reduceCtorEq, Nat.reduceEqDiff, Nat.reduceAdd, Nat.reduceLT, Nat.reduceLeDiff, Nat.reduceBEq, Int.reduceLE, Int.reduceLT, Int.reduceEq, Int.reduceNeg, g0_35, g3_35, c27_l0, h79, h80, h82, h83, h84, h94]
              cases h95 : (decide ((57 : Int) < (x81.toNat : Int)))
              · simp only [D, DT, reduceIte, reduceCtorEq, Nat.reduceEqDiff, Nat.reduceAdd, Nat.reduceLT, Nat.reduceLeDiff, Nat.reduceBEq, Int.reduceLE, Int.reduceLT, Int.reduceEq, Int.reduceNeg, g0_35, g3_35, c27_l0, h79, h80, h82, h83, h84, h94, h95]
                exact hn _ _ _ ⟨(by first | (simp only [D, DT, reduceIte, reduceCtorEq, Nat.reduceEqDiff, Nat.reduceAdd, Nat.reduceLT, Nat.reduceLeDiff, Nat.reduceBEq, Int.reduceLE, Int.reduceLT, Int.reduceEq, Int.reduceNeg, g0_35, g3_35, c27_l0, h79, h80, h82, h83, h84, h94, h95] <;> rfl) | rfl), (by first | (simp only [D, DT, reduceIte, reduceCtorEq, Nat.reduceEqDiff, Nat.reduceAdd, Nat.reduceLT, Nat.reduceLeDiff, Nat.reduceBEq, Int.reduceLE, Int.reduceLT, Int.reduceEq, Int.reduceNeg, g0_35, g3_35, c27_l0, h79, h80, h82, h83, h84, h94, h95] <;> rfl) | rfl)⟩
              · simp only [D, DT, reduceIte, reduceCtorEq, Nat.reduceEqDiff, Nat.reduceAdd, Nat.reduceLT, Nat.reduceLeDiff, Nat.reduceBEq, Int.reduceLE, Int.reduceLT, Int.reduceEq, Int.reduceNeg, g0_35, g3_35, c27_l0, h79, h80, h82, h83, h84, h94, h95]
                cases h96 : (decide ((x81.toNat : Int) = 95))
                · simp only [D, DT, reduceIte, reduceCtorEq, Nat.reduceEqDiff, Nat.reduceAdd, Nat.reduceLT, Nat.reduceLeDiff, Nat.reduceBEq, Int.reduceLE, Int.reduceLT, Int.reduceEq, Int.reduceNeg, g0_35, g3_35, c27_l0, h79, h80, h82, h83, h84, h94, h95, h96]
                  cases h97 : (decide ((x81.toNat : Int) = 45))
                  · simp only [D, DT, reduceIte, reduceCtorEq, Nat.reduceEqDiff, Nat.reduceAdd, Nat.reduceLT, Nat.reduceLeDiff, Nat.reduceBEq, Int.reduceLE, Int.reduceLT, Int.reduceEq, Int.reduceNeg, g0_35, g3_35, c27_l0, h79, h80, h82, h83, h84, h94, h95, h96, h97]
                    exact (hret _ _ (by first | (simp only [D, DT, reduceIte, reduceCtorEq, Nat.reduceEqDiff, Nat.reduceAdd, Nat.reduceLT, Nat.reduceLeDiff, Nat.reduceBEq, Int.reduceLE, Int.reduceLT, Int.reduceEq, Int.reduceNeg, g0_35, g3_35, c27_l0, h79, h80, h82, h83, h84, h94, h95, h96, h97] <;> rfl) | rfl)).trans (hd _).symm
                  · simp only [D, DT, reduceIte, reduceCtorEq, Nat.reduceEqDiff, Nat.reduceAdd, Nat.reduceLT, Nat.reduceLeDiff, Nat.reduceBEq, Int.reduceLE, Int.reduceLT, Int.reduceEq, Int.reduceNeg, g0_35, g3_35, c27_l0, h79, h80, h82, h83, h84, h94, h95, h96, h97]
                    cases h98 : (decide (v35_3 = 0))
                    · simp only [D, DT, reduceIte, reduceCtorEq, Nat.reduceEqDiff, Nat.reduceAdd, Nat.reduceLT, Nat.reduceLeDiff, Nat.reduceBEq, Int.reduceLE, Int.reduceLT, Int.reduceEq, Int.reduceNeg, g0_35, g3_35, c27_l0, h79, h80, h82, h83, h84, h94, h95, h96, h97, h98]
                      exact hn _ _ _ ⟨(by first | (simp only [D, DT, reduceIte, reduceCtorEq, Nat.reduceEqDiff, Nat.reduceAdd, Nat.reduceLT, Nat.reduceLeDiff, Nat.reduceBEq, Int.reduceLE, Int.reduceLT, Int.reduceEq, Int.reduceNeg, g0_35, g3_35, c27_l0, h79, h80, h82, h83, h84, h94, h95, h96, h97, h98] <;> rfl) | rfl), (by first | (simp only [D, DT, reduceIte, reduceCtorEq, Nat.reduceEqDiff, Nat.reduceAdd, Nat.reduceLT, Nat.reduceLeDiff, Nat.reduceBEq, Int.reduceLE, Int.reduceLT, Int.reduceEq, Int.reduceNeg, g0_35, g3_35, c27_l0, h79, h80, h82, h83, h84, h94, h95, h96, h97, h98] <;> rfl) | rfl)⟩
                    · simp only [D, DT, reduceIte, reduceCtorEq, Nat.reduceEqDiff, Nat.reduceAdd, Nat.reduceLT, Nat.reduceLeDiff, Nat.reduceBEq, Int.reduceLE, Int.reduceLT, Int.reduceEq, Int.reduceNeg, g0_35, g3_35, c27_l0, h79, h80, h82, h83, h84, h94, h95, h96, h97, h98]
                      exact (hret _ _ (by first | (simp only [D, DT, reduceIte, reduceCtorEq, Nat.reduceEqDiff, Nat.reduceAdd, Nat.reduceLT, Nat.reduceLeDiff, Nat.reduceBEq, Int.reduceLE, Int.reduceLT, Int.reduceEq, Int.reduceNeg, g0_35, g3_35, c27_l0, h79, h80, h82, h83, h84, h94, h95, h96, h97, h98] <;> rfl) | rfl)).trans (hd _).symm
                · simp only [D, DT, reduceIte, reduceCtorEq, Nat.reduceEqDiff, Nat.reduceAdd, Nat.reduceLT, Nat.reduceLeDiff, Nat.reduceBEq, Int.reduceLE, Int.reduceLT, Int.reduceEq, Int.reduceNeg, g0_35, g3_35, c27_l0, h79, h80, h82, h83, h84, h94, h95, h96]
                  exact hn _ _ _ ⟨(by first | (simp only [D, DT, reduceIte, reduceCtorEq, Nat.reduceEqDiff, Nat.reduceAdd, Nat.reduceLT, Nat.reduceLeDiff, Nat.reduceBEq, Int.reduceLE, Int.reduceLT, Int.reduceEq, Int.reduceNeg, g0_35, g3_35, c27_l0, h79, h80, h82, h83, h84, h94, h95, h96] <;> rfl) | rfl), (by first | (simp only [D, DT, reduceIte, reduceCtorEq, Nat.reduceEqDiff, Nat.reduceAdd, Nat.reduceLT, Nat.reduceLeDiff, Nat.reduceBEq, Int.reduceLE, Int.reduceLT, Int.reduceEq, Int.reduceNeg, g0_35, g3_35, c27_l0, h79, h80, h82, h83, h84, h94, h95, h96] <;> rfl) | rfl)⟩
            · simp only [D, DT, reduceIte, reduceCtorEq, Nat.reduceEqDiff, Nat.reduceAdd, Nat.reduceLT, Nat.reduceLeDiff, Nat.reduceBEq, Int.reduceLE, Int.reduceLT, Int.reduceEq, Int.reduceNeg, g0_35, g3_35, c27_l0, h79, h80, h82, h83, h84, h94]
              cases h99 : (decide ((x81.toNat : Int) = 95))
              · simp only [D, DT, reduceIte, reduceCtorEq, Nat.reduceEqDiff, Nat.reduceAdd, Nat.reduceLT, Nat.reduceLeDiff, Nat.reduceBEq, Int.reduceLE, Int.reduceLT, Int.reduceEq, Int.reduceNeg, g0_35, g3_35, c27_l0, h79, h80, h82, h83, h84, h94, h99]
                cases h100 : (decide ((x81.toNat : Int) = 45))
                · simp only [D, DT, reduceIte, reduceCtorEq, Nat.reduceEqDiff, Nat.reduceAdd, Nat.reduceLT, Nat.reduceLeDiff, Nat.reduceBEq, Int.reduceLE, Int.reduceLT, Int.reduceEq, Int.reduceNeg, g0_35, g3_35, c27_l0, h79, h80, h82, h83, h84, h94, h99, h100]
                  exact (hret _ _ (by first | (simp only [D, DT, reduceIte, reduceCtorEq, Nat.reduceEqDiff, Nat.reduceAdd, Nat.reduceLT, Nat.reduceLeDiff, Nat.reduceBEq, Int.reduceLE, Int.reduceLT, Int.reduceEq, Int.reduceNeg, g0_35, g3_35, c27_l0, h79, h80, h82, h83, h84, h94, h99, h100] <;> rfl) | rfl)).trans (hd _).symm
                · simp only [D, DT, reduceIte, reduceCtorEq, Nat.reduceEqDiff, Nat.reduceAdd, Nat.reduceLT, Nat.reduceLeDiff, Nat.reduceBEq, Int.reduceLE, Int.reduceLT, Int.reduceEq, Int.reduceNeg, g0_35, g3_35, c27_l0, h79, h80, h82, h83, h84, h94, h99, h100]
                  cases h101 : (decide (v35_3 = 0))
                  · simp only [D, DT, reduceIte, reduceCtorEq, Nat.reduceEqDiff, Nat.reduceAdd, Nat.reduceLT, Nat.reduceLeDiff, Nat.reduceBEq, Int.reduceLE, Int.reduceLT, Int.reduceEq, Int.reduceNeg, g0_35, g3_35, c27_l0, h79, h80, h82, h83, h84, h94, h99, h100, h101]
                    exact hn _ _ _ ⟨(by first | (simp only [D, DT, reduceIte, reduceCtorEq, Nat.reduceEqDiff, Nat.reduceAdd, Nat.reduceLT, Nat.reduceLeDiff, Nat.reduceBEq, Int.reduceLE, Int.reduceLT, Int.reduceEq, Int.reduceNeg, g0_35, g3_35, c27_l0, h79, h80, h82, h83, h84, h94, h99, h100, h101] <;> rfl) | rfl), (by first | (simp only [D, DT, reduceIte, reduceCtorEq, Nat.reduceEqDiff, Nat.reduceAdd, Nat.reduceLT, Nat.reduceLeDiff, Nat.reduceBEq, Int.reduceLE, Int.reduceLT, Int.reduceEq, Int.reduceNeg, g0_35, g3_35, c27_l0, h79, h80, h82, h83, h84, h94, h99, h100, h101] <;> rfl) | rfl)⟩
                  · simp only [D, DT, reduceIte, reduceCtorEq, Nat.reduceEqDiff, Nat.reduceAdd, Nat.reduceLT, Nat.reduceLeDiff, Nat.reduceBEq, Int.reduceLE, Int.reduceLT, Int.reduceEq, Int.reduceNeg, g0_35, g3_35, c27_l0, h79, h80, h82, h83, h84, h94, h99, h100, h101]
                    exact (hret _ _ (by first | (simp only [D, DT, reduceIte, reduceCtorEq, Nat.reduceEqDiff, Nat.reduceAdd, Nat.reduceLT, Nat.reduceLeDiff, Nat.reduceBEq, Int.reduceLE, Int.reduceLT, Int.reduceEq, Int.reduceNeg, g0_35, g3_35, c27_l0, h79, h80, h82, h83, h84, h94, h99, h100, h101] <;> rfl) | rfl)).trans (hd _).symm
              · simp only [D, DT, reduceIte, reduceCtorEq, Nat.reduceEqDiff, Nat.reduceAdd, Nat.reduceLT, Nat.reduceLeDiff, Nat.reduceBEq, Int.reduceLE, Int.reduceLT, Int.reduceEq, Int.reduceNeg, g0_35, g3_35, c27_l0, h79, h80, h82, h83, h84, h94, h99]
                exact hn _ _ _ ⟨(by first | (simp only [D, DT, reduceIte, reduceCtorEq, Nat.reduceEqDiff, Nat.reduceAdd, Nat.reduceLT, Nat.reduceLeDiff, Nat.reduceBEq, Int.reduceLE, Int.reduceLT, Int.reduceEq, Int.reduceNeg, g0_35, g3_35, c27_l0, h79, h80, h82, h83, h84, h94, h99] <;> rfl) | rfl), (by first | (simp only [D, DT, reduceIte, reduceCtorEq, Nat.reduceEqDiff, Nat.reduceAdd, Nat.reduceLT, Nat.reduceLeDiff, Nat.reduceBEq, Int.reduceLE, Int.reduceLT, Int.reduceEq, Int.reduceNeg, g0_35, g3_35, c27_l0, h79, h80, h82, h83, h84, h94, h99] <;> rfl) | rfl)⟩
      · simp only [D, DT, reduceIte, reduceCtorEq, Nat.reduceEqDiff, Nat.reduceAdd, Nat.reduceLT, Nat.reduceLeDiff, Nat.reduceBEq, Int.reduceLE, Int.reduceLT, Int.reduceEq, Int.reduceNeg, g0_35, g3_35, c27_l0, h79, h80, h82]
        cases h102 : (decide ((x81.toNat : Int) < 65))
        · simp only [D, DT, reduceIte, reduceCtorEq, Nat.reduceEqDiff, Nat.reduceAdd, Nat.reduceLT, Nat.reduceLeDiff, Nat.reduceBEq, Int.reduceLE, Int.reduceLT, Int.reduceEq, Int.reduceNeg, g0_35, g3_35, c27_l0, h79, h80, h82, h102]
          cases h103 : (decide ((90 : Int) < (x81.toNat : Int)))
          · simp only [D, DT, reduceIte, reduceCtorEq, Nat.reduceEqDiff, Nat.reduceAdd, Nat.reduceLT, Nat.reduceLeDiff, Nat.reduceBEq, Int.reduceLE, Int.reduceLT, Int.reduceEq, Int.reduceNeg, g0_35, g3_35, c27_l0, h79, h80, h82, h102, h103]
            exact hn _ _ _ ⟨(by first | (simp only [D, DT, reduceIte, reduceCtorEq, Nat.reduceEqDiff, Nat.reduceAdd, Nat.reduceLT, Nat.reduceLeDiff, Nat.reduceBEq, Int.reduceLE, Int.reduceLT, Int.reduceEq, Int.reduceNeg, g0_35, g3_35, c27_l0, h79, h80, h82, h102, h103] <;> rfl) | rfl), (by first | (simp only [D, DT, reduceIte, reduceCtorEq, Nat.reduceEqDiff, Nat.reduceAdd, Nat.reduceLT, Nat.reduceLeDiff, Nat.reduceBEq, Int.reduceLE, Int.reduceLT, Int.reduceEq, Int.reduceNeg, g0_35, g3_35, c27_l0, h79, h80, h82, h102, h103] <;> rfl) | rfl)⟩
          · simp only [D, DT, reduceIte, reduceCtorEq, Nat.reduceEqDiff, Nat.reduceAdd, Nat.reduceLT, Nat.reduceLeDiff, Nat.reduceBEq, Int.reduceLE, Int.reduceLT, Int.reduceEq, Int.reduceNeg, g0_35, g3_35, c27_l0, h79, h80, h82, h102, h103]
            cases h104 : (decide ((x81.toNat : Int) < 48))
            · simp only [D, DT, reduceIte, reduceCtorEq, Nat.reduceEqDiff, Nat.reduceAdd, Nat.reduceLT, Nat.reduceLeDiff, Nat.reduceBEq, Int.reduceLE, Int.reduceLT, Int.reduceEq, Int.reduceNeg, g0_35, g3_35, c27_l0, h79, h80, h82, h102, h103, h104]
              cases h105 : (decide ((57 : Int) < (x81.toNat : Int)))
              · simp only [D, DT, reduceIte, reduceCtorEq, Nat.reduceEqDiff, Nat.reduceAdd, Nat.reduceLT, Nat.reduceLeDiff, Nat.reduceBEq, Int.reduceLE, Int.reduceLT, Int.reduceEq, Int.reduceNeg, g0_35, g3_35, c27_l0, h79, h80, h82, h102, h103, h104, h105]
                exact hn _ _ _ ⟨(by first | (simp only [D, DT, reduceIte, reduceCtorEq, Nat.reduceEqDiff, Nat.reduceAdd, Nat.reduceLT, Nat.reduceLeDiff, Nat.reduceBEq, Int.reduceLE, Int.reduceLT, Int.reduceEq, Int.reduceNeg, g0_35, g3_35, c27_l0, h79, h80, h82, h102, h103, h104, h105] <;> rfl) | rfl), (by first | (simp only [D, DT, reduceIte, reduceCtorEq, Nat.reduceEqDiff, Nat.reduceAdd, Nat.reduceLT, Nat.reduceLeDiff, Nat.reduceBEq, Int.reduceLE, Int.reduceLT, Int.reduceEq, Int.reduceNeg, g0_35, g3_35, c27_l0, h79, h80, h82, h102, h103, h104, h105] <;> rfl) | rfl)⟩
              · simp only [D, DT, reduceIte, reduceCtorEq, Nat.reduceEqDiff, Nat.reduceAdd, Nat.reduceLT, Nat.reduceLeDiff, Nat.reduceBEq, Int.reduceLE, Int.reduceLT, Int.reduceEq, Int.reduceNeg, g0_35, g3_35, c27_l0, h79, h80, h82, h102, h103, h104, h105]
                cases h106 : (decide ((x81.toNat : Int) = 95))
                · simp only [D, DT, reduceIte, reduceCtorEq, Nat.reduceEqDiff, Nat.reduceAdd, Nat.reduceLT, Nat.reduceLeDiff, Nat.reduceBEq, Int.reduceLE, Int.reduceLT, Int.reduceEq, Int.reduceNeg, g0_35, g3_35, c27_l0, h79, h80, h82, h102, h103, h104, h105, h106]
                  cases h107 : (decide ((x81.toNat : Int) = 45))
                  · simp only [D, DT, reduceIte, reduceCtorEq, Nat.reduceEqDiff, Nat.reduceAdd, Nat.reduceLT, Nat.reduceLeDiff, Nat.reduceBEq, Int.reduceLE, Int.reduceLT, Int.reduceEq, Int.reduceNeg, g0_35, g3_35, c27_l0, h79, h80, h82, h102, h103, h104, h105, h106, h107]
                    exact (hret _ _ (by first | (simp only [D, DT, reduceIte, reduceCtorEq, Nat.reduceEqDiff, Nat.reduceAdd, Nat.reduceLT, Nat.reduceLeDiff, Nat.reduceBEq, Int.reduceLE, Int.reduceLT, Int.reduceEq, Int.reduceNeg, g0_35, g3_35, c27_l0, h79, h80, h82, h102, h103, h104, h105, h106, h107] <;> rfl) | rfl)).trans (hd _).symm
                  · simp only [D, DT, reduceIte, reduceCtorEq, Nat.reduceEqDiff, Nat.reduceAdd, Nat.reduceLT, Nat.reduceLeDiff, Nat.reduceBEq, Int.reduceLE, Int.reduceLT, Int.reduceEq, Int.reduceNeg, g0_35, g3_35, c27_l0, h79, h80, h82, h102, h103, h104, h105, h106, h107]
                    cases h108 : (decide (v35_3 = 0))
                    · simp only [D, DT, reduceIte, reduceCtorEq, Nat.reduceEqDiff, Nat.reduceAdd, Nat.reduceLT, Nat.reduceLeDiff, Nat.reduceBEq, Int.reduceLE, Int.reduceLT, Int.reduceEq, Int.reduceNeg, g0_35, g3_35, c27_l0, h79, h80, h82, h102, h103, h104, h105, h106, h107, h108]
                      exact hn _ _ _ ⟨(by first | (simp only [D, DT, reduceIte, reduceCtorEq, Nat.reduceEqDiff, Nat.reduceAdd, Nat.reduceLT, Nat.reduceLeDiff, Nat.reduceBEq, Int.reduceLE, Int.reduceLT, Int.reduceEq, Int.reduceNeg, g0_35, g3_35, c27_l0, h79, h80, h82, h102, h103, h104, h105, h106, h107, h108] <;> rfl) | rfl), (by first | (simp only [D, DT, reduceIte, reduceCtorEq, Nat.reduceEqDiff, Nat.reduceAdd, Nat.reduceLT, Nat.reduceLeDiff, Nat.reduceBEq, Int.reduceLE, Int.reduceLT, Int.reduceEq, Int.reduceNeg, g0_35, g3_35, c27_l0, h79, h80, h82, h102, h103, h104, h105, h106, h107, h108] <;> rfl) | rfl)⟩
                    · simp only [D, DT, reduceIte, reduceCtorEq, Nat.reduceEqDiff, Nat.reduceAdd, Nat.reduceLT, Nat.reduceLeDiff, Nat.reduceBEq, Int.reduceLE, Int.reduceLT, Int.reduceEq, Int.reduceNeg, g0_35, g3_35, c27_l0, h79, h80, h82, h102, h103, h104, h105, h106, h107, h108]
                      exact (hret _ _ (by first | (simp only [D, DT, reduceIte, reduceCtorEq, Nat.reduceEqDiff, Nat.reduceAdd, Nat.reduceLT, Nat.reduceLeDiff, Nat.reduceBEq, Int.reduceLE, Int.reduceLT, Int.reduceEq, Int.reduceNeg, g0_35, g3_35, c27_l0, h79, h80, h82, h102, h103, h104, h105, h106, h107, h108] <;> rfl) | rfl)).trans (hd _).symm
                · simp only [D, DT, reduceIte, reduceCtorEq, Nat.reduceEqDiff, Nat.reduceAdd, Nat.reduceLT, Nat.reduceLeDiff, Nat.reduceBEq, Int.reduceLE, Int.reduceLT, Int.reduceEq, Int.reduceNeg, g0_35, g3_35, c27_l0, h79, h80, h82, h102, h103, h104, h105, h106]
                  exact hn _ _ _ ⟨(by first | (simp only [D, DT, reduceIte, reduceCtorEq, Nat.reduceEqDiff, Nat.reduceAdd, Nat.reduceLT, Nat.reduceLeDiff, Nat.reduceBEq, Int.reduceLE, Int.reduceLT, Int.reduceEq, Int.reduceNeg, g0_35, g3_35, c27_l0, h79, h80, h82, h102, h103, h104, h105, h106] <;> rfl) | rfl), (by first | (simp only [D, DT, reduceIte, reduceCtorEq, Nat.reduceEqDiff, Nat.reduceAdd, Nat.reduceLT, Nat.reduceLeDiff, Nat.reduceBEq, Int.reduceLE, Int.reduceLT, Int.reduceEq, Int.reduceNeg, g0_35, g3_35, c27_l0, h79, h80, h82, h102, h103, h104, h105, h106] <;> rfl) | rfl)⟩
            · simp only [D, DT, reduceIte, reduceCtorEq, Nat.reduceEqDiff, Nat.reduceAdd, Nat.reduceLT, Nat.reduceLeDiff, Nat.reduceBEq, Int.reduceLE, Int.reduceLT, Int.reduceEq, Int.reduceNeg, g0_35, g3_35, c27_l0, h79, h80, h82, h102, h103, h104]
              cases h109 : (decide ((x81.toNat : Int) = 95))
              · simp only [D, DT, reduceIte, reduceCtorEq, Nat.reduceEqDiff, Nat.reduceAdd, Nat.reduceLT, Nat.reduceLeDiff, Nat.reduceBEq, Int.reduceLE, Int.reduceLT, Int.reduceEq, Int.reduceNeg, g0_35, g3_35, c27_l0, h79, h80, h82, h102, h103, h104, h109]
                cases h110 : (decide ((x81.toNat : Int) = 45))
                · simp only [D, DT, reduceIte, reduceCtorEq, Nat.reduceEqDiff, Nat.reduceAdd, Nat.reduceLT, Nat.reduceLeDiff, Nat.reduceBEq, Int.reduceLE, Int.reduceLT, Int.reduceEq, Int.reduceNeg, g0_35, g3_35, c27_l0, h79, h80, h82, h102, h103, h104, h109, h110]
                  exact (hret _ _ (by first | (simp only [D, DT, reduceIte, reduceCtorEq, Nat.reduceEqDiff, Nat.reduceAdd, Nat.reduceLT, Nat.reduceLeDiff, Nat.reduceBEq, Int.reduceLE, Int.reduceLT, Int.reduceEq, Int.reduceNeg, g0_35, g3_35, c27_l0, h79, h80, h82, h102, h103, h104, h109, h110] <;> rfl) | rfl)).trans (hd _).symm
                · simp only [D, DT, reduceIte, reduceCtorEq, Nat.reduceEqDiff, Nat.reduceAdd, Nat.reduceLT, Nat.reduceLeDiff, Nat.reduceBEq, Int.reduceLE, Int.reduceLT, Int.reduceEq, Int.reduceNeg, g0_35, g3_35, c27_l0, h79, h80, h82, h102, h103, h104, h109, h110]
                  cases h111 : (decide (v35_3 = 0))
                  · simp only [D, DT, reduceIte, reduceCtorEq, Nat.reduceEqDiff, Nat.reduceAdd, Nat.reduceLT, Nat.reduceLeDiff, Nat.reduceBEq, Int.reduceLE, Int.reduceLT, Int.reduceEq, Int.reduceNeg, g0_35, g3_35, c27_l0, h79, h80, h82, h102, h103, h104, h109, h110, h111]
                    exact hn _ _ _ ⟨(by first | (simp only [D, DT, reduceIte, reduceCtorEq, Nat.reduceEqDiff, Nat.reduceAdd, Nat.reduceLT, Nat.reduceLeDiff, Nat.reduceBEq, Int.reduceLE, Int.reduceLT, Int.reduceEq, Int.reduceNeg, g0_35, g3_35, c27_l0, h79, h80, h82, h102, h103, h104, h109, h110, h111] <;> rfl) | rfl), (by first | (simp only [D, DT, reduceIte, reduceCtorEq, Nat.reduceEqDiff, Nat.reduceAdd, Nat.reduceLT, Nat.reduceLeDiff, Nat.reduceBEq, Int.reduceLE, Int.reduceLT, Int.reduceEq, Int.reduceNeg, g0_35, g3_35, c27_l0, h79, h80, h82, h102, h103, h104, h109, h110, h111] <;> rfl) | rfl)⟩
                  · simp only [D, DT, reduceIte, reduceCtorEq, Nat.reduceEqDiff, Nat.reduceAdd, Nat.reduceLT, Nat.reduceLeDiff, Nat.reduceBEq, Int.reduceLE, Int.reduceLT, Int.reduceEq, Int.reduceNeg, g0_35, g3_35, c27_l0, h79, h80, h82, h102, h103, h104, h109, h110, h111]
                    exact (hret _ _ (by first | (simp only [D, DT, reduceIte, reduceCtorEq, Nat.reduceEqDiff, Nat.reduceAdd, Nat.reduceLT, Nat.reduceLeDiff, Nat.reduceBEq, Int.reduceLE, Int.reduceLT, Int.reduceEq, Int.reduceNeg, g0_35, g3_35, c27_l0, h79, h80, h82, h102, h103, h104, h109, h110, h111] <;> rfl) | rfl)).trans (hd _).symm
              · simp only [D, DT, reduceIte, reduceCtorEq, Nat.reduceEqDiff, Nat.reduceAdd, Nat.reduceLT, Nat.reduceLeDiff, Nat.reduceBEq, Int.reduceLE, Int.reduceLT, Int.reduceEq, Int.reduceNeg, g0_35, g3_35, c27_l0, h79, h80, h82, h102, h103, h104, h109]
                exact hn _ _ _ ⟨(by first | (simp only [D, DT, reduceIte, reduceCtorEq, Nat.reduceEqDiff, Nat.reduceAdd, Nat.reduceLT, Nat.reduceLeDiff, Nat.reduceBEq, Int.reduceLE, Int.reduceLT, Int.reduceEq, Int.reduceNeg, g0_35, g3_35, c27_l0, h79, h80, h82, h102, h103, h104, h109] <;> rfl) | rfl), (by first | (simp only [D, DT, reduceIte, reduceCtorEq, Nat.reduceEqDiff, Nat.reduceAdd, Nat.reduceLT, Nat.reduceLeDiff, Nat.reduceBEq, Int.reduceLE, Int.reduceLT, Int.reduceEq, Int.reduceNeg, g0_35, g3_35, c27_l0, h79, h80, h82, h102, h103, h104, h109] <;> rfl) | rfl)⟩
        · simp only [D, DT, reduceIte, reduceCtorEq, Nat.reduceEqDiff, Nat.reduceAdd, Nat.reduceLT, Nat.reduceLeDiff, Nat.reduceBEq, Int.reduceLE, Int.reduceLT, Int.reduceEq, Int.reduceNeg, g0_35, g3_35, c27_l0, h79, h80, h82, h102]
          cases h112 : (decide ((x81.toNat : Int) < 48))
          · simp only [D, DT, reduceIte, reduceCtorEq, Nat.reduceEqDiff, Nat.reduceAdd, Nat.reduceLT, Nat.reduceLeDiff, Nat.reduceBEq, Int.reduceLE, Int.reduceLT, Int.reduceEq, Int.reduceNeg, g0_35, g3_35, c27_l0, h79, h80, h82, h102, h112]
            cases h113 : (decide ((57 : Int) < (x81.toNat : Int)))
            · simp only [D, DT, reduceIte, reduceCtorEq, Nat.reduceEqDiff, Nat.reduceAdd, Nat.reduceLT, Nat.reduceLeDiff, Nat.reduceBEq, Int.reduceLE, Int.reduceLT, Int.reduceEq, Int.reduceNeg, g0_35, g3_35, c27_l0, h79, h80, h82, h102, h112, h113]
              exact hn _ _ _ ⟨(by first | (simp only [D, DT, reduceIte, reduceCtorEq, Nat.reduceEqDiff, Nat.reduceAdd, Nat.reduceLT, Nat.reduceLeDiff, Nat.reduceBEq, Int.reduceLE, Int.reduceLT, Int.reduceEq, Int.reduceNeg, g0_35, g3_35, c27_l0, h79, h80, h82, h102, h112, h113] <;> rfl) | rfl), (by first | (simp only [D, DT, reduceIte, reduceCtorEq, Nat.reduceEqDiff, Nat.reduceAdd, Nat.reduceLT, Nat.reduceLeDiff, Nat.reduceBEq, Int.reduceLE, Int.reduceLT, Int.reduceEq, Int.reduceNeg, g0_35, g3_35, c27_l0, h79, h80, h82, h102, h112, h113] <;> rfl) | rfl)⟩
            · simp only [D, DT, reduceIte, reduceCtorEq, Nat.reduceEqDiff, Nat.reduceAdd, Nat.reduceLT, Nat.reduceLeDiff, Nat.reduceBEq, Int.reduceLE, Int.reduceLT, Int.reduceEq, Int.reduceNeg, g0_35, g3_35, c27_l0, h79, h80, h82, h102, h112, h113]
              cases h114 : (decide ((x81.toNat : Int) = 95))
              · simp only [D, DT, reduceIte, reduceCtorEq, Nat.reduceEqDiff, Nat.reduceAdd, Nat.reduceLT, Nat.reduceLeDiff, Nat.reduceBEq, Int.reduceLE, Int.reduceLT, Int.reduceEq, Int.reduceNeg, g0_35, g3_35, c27_l0, h79, h80, h82, h102, h112, h113, h114]
                cases h115 : (decide ((x81.toNat : Int) = 45))
                · simp only [D, DT, reduceIte, reduceCtorEq, Nat.reduceEqDiff, Nat.reduceAdd, Nat.reduceLT, Nat.reduceLeDiff, Nat.reduceBEq, Int.reduceLE, Int.reduceLT, Int.reduceEq, Int.reduceNeg, g0_35, g3_35, c27_l0, h79, h80, h82, h102, h112, h113, h114, h115]
                  exact (hret _ _ (by first | (simp only [D, DT, reduceIte, reduceCtorEq, Nat.reduceEqDiff, Nat.reduceAdd, Nat.reduceLT, Nat.reduceLeDiff, Nat.reduceBEq, Int.reduceLE, Int.reduceLT, Int.reduceEq, Int.reduceNeg, g0_35, g3_35, c27_l0, h79, h80, h82, h102, h112, h113, h114, h115] <;> rfl) | rfl)).trans (hd _).symm
                · simp only [D, DT, reduceIte, reduceCtorEq, Nat.reduceEqDiff, Nat.reduceAdd, Nat.reduceLT, Nat.reduceLeDiff, Nat.reduceBEq, Int.reduceLE, Int.reduceLT, Int.reduceEq, Int.reduceNeg, g0_35, g3_35, c27_l0, h79, h80, h82, h102, h112, h113, h114, h115]
                  cases h116 : (decide (v35_3 = 0))
                  · simp only [D, DT, reduceIte, reduceCtorEq, Nat.reduceEqDiff, Nat.reduceAdd, Nat.reduceLT, Nat.reduceLeDiff, Nat.reduceBEq, Int.reduceLE, Int.reduceLT, Int.reduceEq, Int.reduceNeg, g0_35, g3_35, c27_l0, h79, h80, h82, h102, h112, h113, h114, h115, h116]
                    exact hn _ _ _ ⟨(by first | (simp only [D, DT, reduceIte, reduceCtorEq, Nat.reduceEqDiff, Nat.reduceAdd, Nat.reduceLT, Nat.reduceLeDiff, Nat.reduceBEq, Int.reduceLE, Int.reduceLT, Int.reduceEq, Int.reduceNeg, g0_35, g3_35, c27_l0, h79, h80, h82, h102, h112, h113, h114, h115, h116] <;> rfl) | rfl), (by first | (simp only [D, DT, reduceIte, reduceCtorEq, Nat.reduceEqDiff, Nat.reduceAdd, Nat.reduceLT, Nat.reduceLeDiff, Nat.reduceBEq, Int.reduceLE, Int.reduceLT, Int.reduceEq, Int.reduceNeg, g0_35, g3_35, c27_l0, h79, h80, h82, h102, h112, h113, h114, h115, h116] <;> rfl) | rfl)⟩
                  · simp only [D, DT, reduceIte, reduceCtorEq, Nat.reduceEqDiff, Nat.reduceAdd, Nat.reduceLT, Nat.reduceLeDiff, Nat.reduceBEq, Int.reduceLE, Int.reduceLT, Int.reduceEq, Int.reduceNeg, g0_35, g3_35, c27_l0, h79, h80, h82, h102, h112, h113, h114, h115, h116]
                    exact (hret _ _ (by first | (simp only [D, DT, reduceIte, reduceCtorEq, Nat.reduceEqDiff, Nat.reduceAdd, Nat.reduceLT, Nat.reduceLeDiff, Nat.reduceBEq, Int.reduceLE, Int.reduceLT, Int.reduceEq, Int.reduceNeg, g0_35, g3_35, c27_l0, h79, h80, h82, h102, h112, h113, h114, h115, h116] <;> rfl) | rfl)).trans (hd _).symm
              · simp only [D, DT, reduceIte, reduceCtorEq, Nat.reduceEqDiff, Nat.reduceAdd, Nat.reduceLT, Nat.reduceLeDiff, Nat.reduceBEq, Int.reduceLE, Int.reduceLT, Int.reduceEq, Int.reduceNeg, g0_35, g3_35, c27_l0, h79, h80, h82, h102, h112, h113, h114]
                exact hn _ _ _ ⟨(by first | (simp only [D, DT, reduceIte, reduceCtorEq, Nat.reduceEqDiff, Nat.reduceAdd, Nat.reduceLT, Nat.reduceLeDiff, Nat.reduceBEq, Int.reduceLE, Int.reduceLT, Int.reduceEq, Int.reduceNeg, g0_35, g3_35, c27_l0, h79, h80, h82, h102, h112, h113, h114] <;> rfl) | rfl), (by first | (simp only [D, DT, reduceIte, reduceCtorEq, Nat.reduceEqDiff, Nat.reduceAdd, Nat.reduceLT, Nat.reduceLeDiff, Nat.reduceBEq, Int.reduceLE, Int.reduceLT, Int.reduceEq, Int.reduceNeg, g0_35, g3_35, c27_l0, h79, h80, h82, h102, h112, h113, h114] <;> rfl) | rfl)⟩
          · simp only [D, DT, reduceIte, reduceCtorEq, Nat.reduceEqDiff, Nat.reduceAdd, Nat.reduceLT, Nat.reduceLeDiff, Nat.reduceBEq, Int.reduceLE, Int.reduceLT, Int.reduceEq, Int.reduceNeg, g0_35, g3_35, c27_l0, h79, h80, h82, h102, h112]
            cases h117 : (decide ((x81.toNat : Int) = 95))
            · simp only [D, DT, reduceIte, reduceCtorEq, Nat.reduceEqDiff, Nat.reduceAdd, Nat.reduceLT, Nat.reduceLeDiff, Nat.reduceBEq, Int.reduceLE, Int.reduceLT, Int.reduceEq, Int.reduceNeg, g0_35, g3_35, c27_l0, h79, h80, h82, h102, h112, h117]
              cases h118 : (decide ((x81.toNat : Int) = 45))
              · simp only [D, DT, reduceIte, reduceCtorEq, Nat.reduceEqDiff, Nat.reduceAdd, Nat.reduceLT, Nat.reduceLeDiff, Nat.reduceBEq, Int.reduceLE, Int.reduceLT, Int.reduceEq, Int.reduceNeg, g0_35, g3_35, c27_l0, h79, h80, h82, h102, h112, h117, h118]
                exact (hret _ _ (by first | (simp only [D, DT, reduceIte, reduceCtorEq, Nat.reduceEqDiff, Nat.reduceAdd, Nat.reduceLT, Nat.reduceLeDiff, Nat.reduceBEq, Int.reduceLE, Int.reduceLT, Int.reduceEq, Int.reduceNeg, g0_35, g3_35, c27_l0, h79, h80, h82, h102, h112, h117, h118] <;> rfl) | rfl)).trans (hd _).symm
              · simp only [D, DT, reduceIte, reduceCtorEq, Nat.reduceEqDiff, Nat.reduceAdd, Nat.reduceLT, Nat.reduceLeDiff, Nat.reduceBEq, Int.reduceLE, Int.reduceLT, Int.reduceEq, Int.reduceNeg, g0_35, g3_35, c27_l0, h79, h80, h82, h102, h112, h117, h118]
                cases h119 : (decide (v35_3 = 0))
                · simp only [D, DT, reduceIte, reduceCtorEq, Nat.reduceEqDiff, Nat.reduceAdd, Nat.reduceLT, Nat.reduceLeDiff, Nat.reduceBEq, Int.reduceLE, Int.reduceLT, Int.reduceEq, Int.reduceNeg, g0_35, g3_35, c27_l0, h79, h80, h82, h102, h112, h117, h118, h119]
                  exact hn _ _ _ ⟨(by first | (simp only [D, DT, reduceIte, reduceCtorEq, Nat.reduceEqDiff, Nat.reduceAdd, Nat.reduceLT, Nat.reduceLeDiff, Nat.reduceBEq, Int.reduceLE, Int.reduceLT, Int.reduceEq, Int.reduceNeg, g0_35, g3_35, c27_l0, h79, h80, h82, h102, h112, h117, h118, h119] <;> rfl) | rfl), (by first | (simp only [D, DT, reduceIte, reduceCtorEq, Nat.reduceEqDiff, Nat.reduceAdd, Nat.reduceLT, Nat.reduceLeDiff, Nat.reduceBEq, Int.reduceLE, Int.reduceLT, Int.reduceEq, Int.reduceNeg, g0_35, g3_35, c27_l0, h79, h80, h82, h102, h112, h117, h118, h119] <;> rfl) | rfl)⟩
                · simp only [D, DT, reduceIte, reduceCtorEq, Nat.reduceEqDiff, Nat.reduceAdd, Nat.reduceLT, Nat.reduceLeDiff, Nat.reduceBEq, Int.reduceLE, Int.reduceLT, Int.reduceEq, Int.reduceNeg, g0_35, g3_35, c27_l0, h79, h80, h82, h102, h112, h117, h118, h119]
                  exact (hret _ _ (by first | (simp only [D, DT, reduceIte, reduceCtorEq, Nat.reduceEqDiff, Nat.reduceAdd, Nat.reduceLT, Nat.reduceLeDiff, Nat.reduceBEq, Int.reduceLE, Int.reduceLT, Int.reduceEq, Int.reduceNeg, g0_35, g3_35, c27_l0, h79, h80, h82, h102, h112, h117, h118, h119] <;> rfl) | rfl)).trans (hd _).symm
            · simp only [D, DT, reduceIte, reduceCtorEq, Nat.reduceEqDiff, Nat.reduceAdd, Nat.reduceLT, Nat.reduceLeDiff, Nat.reduceBEq, Int.reduceLE, Int.reduceLT, Int.reduceEq, Int.reduceNeg, g0_35, g3_35, c27_l0, h79, h80, h82, h102, h112, h117]
              exact hn _ _ _ ⟨(by first | (simp only [D, DT, reduceIte, reduceCtorEq, Nat.reduceEqDiff, Nat.reduceAdd, Nat.reduceLT, Nat.reduceLeDiff, Nat.reduceBEq, Int.reduceLE, Int.reduceLT, Int.reduceEq, Int.reduceNeg, g0_35, g3_35, c27_l0, h79, h80, h82, h102, h112, h117] <;> rfl) | rfl), (by first | (simp only [D, DT, reduceIte, reduceCtorEq, Nat.reduceEqDiff, Nat.reduceAdd, Nat.reduceLT, Nat.reduceLeDiff, Nat.reduceBEq, Int.reduceLE, Int.reduceLT, Int.reduceEq, Int.reduceNeg, g0_35, g3_35, c27_l0, h79, h80, h82, h102, h112, h117] <;> rfl) | rfl)⟩
noncomputable def mandolineref14_Tenant.a0 (a0 : (List UInt8)) : mandolineref14_Tenant.l0X → Option Bool
  | .x0 =>
    some (decide ((a0.length : Int) ≤ 40))
  | .ret =>
    some false
noncomputable def mandolineref14_Tenant.f (a0 : (List UInt8)) : Option Bool :=
  (loopL (mandolineref14_Tenant.l0B a0) 0).bind (mandolineref14_Tenant.a0 a0)
set_option maxHeartbeats 4000000 in
theorem mandolineref14_Tenant.ok (a0 : (List UInt8)) : ansL X 27 [(.str a0)] = Option.map AV.bool (mandolineref14_Tenant.f a0) := by
  rw [ansL_run (fd := c27) rfl rfl]
  simp only [D, DT, reduceIte, reduceCtorEq, Nat.reduceEqDiff, Nat.reduceAdd, Nat.reduceLT, Nat.reduceLeDiff, Nat.reduceBEq, Int.reduceLE, Int.reduceLT, Int.reduceEq, Int.reduceNeg, c27, mandolineref14_Tenant.f]
  refine Eq.trans (mandolineref14_Tenant.l0_ok (fun x => Option.map AV.bool (mandolineref14_Tenant.a0 a0 x)) a0 ?_ ?_ 0 _ _ (by first | (simp only [D, DT, reduceIte, reduceCtorEq, Nat.reduceEqDiff, Nat.reduceAdd, Nat.reduceLT, Nat.reduceLeDiff, Nat.reduceBEq, Int.reduceLE, Int.reduceLT, Int.reduceEq, Int.reduceNeg] <;> rfl) | rfl) (by first | (simp only [D, DT, reduceIte, reduceCtorEq, Nat.reduceEqDiff, Nat.reduceAdd, Nat.reduceLT, Nat.reduceLeDiff, Nat.reduceBEq, Int.reduceLE, Int.reduceLT, Int.reduceEq, Int.reduceNeg] <;> rfl) | rfl)) ?_
  · intro e_120 H_120 g0_77_120
    simp only [D, DT, reduceIte, reduceCtorEq, Nat.reduceEqDiff, Nat.reduceAdd, Nat.reduceLT, Nat.reduceLeDiff, Nat.reduceBEq, Int.reduceLE, Int.reduceLT, Int.reduceEq, Int.reduceNeg, mandolineref14_Tenant.a0, g0_77_120]
    try rfl
  · intro e_121 H_121 g2_78_121
    simp only [D, DT, reduceIte, reduceCtorEq, Nat.reduceEqDiff, Nat.reduceAdd, Nat.reduceLT, Nat.reduceLeDiff, Nat.reduceBEq, Int.reduceLE, Int.reduceLT, Int.reduceEq, Int.reduceNeg, mandolineref14_Tenant.a0, g2_78_121]
    try rfl
  exact mb _ _ _
end Go.Proofs.YtkmefgabcdocpaaDoor
