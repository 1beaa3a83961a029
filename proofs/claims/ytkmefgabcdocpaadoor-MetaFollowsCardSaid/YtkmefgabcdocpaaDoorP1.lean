/-
  Plain functions: mandolineref14_keys, mandolineref14_Small, meta_Right, mandolineref14_Right. Its conditions: none.
-/
import Derived.Test.YtkmefgabcdocpaaDoorP0
namespace Go.Proofs.YtkmefgabcdocpaaDoor
open Go Go.Den
set_option maxRecDepth 100000
set_option linter.unusedSimpArgs false
set_option linter.unusedVariables false
inductive mandolineref14_keys.l0X where
  | x0
  | ret
inductive mandolineref14_keys.l1X where
  | x2
  | ret
noncomputable def mandolineref14_keys.l1B (v13_3 : Int) (a0 : (List (List UInt8))) (v55_4 : Int) : Option (Step (Int) mandolineref14_keys.l1X) :=
  bif (decide (v55_4 < v13_3)) then
    (idx a0 v55_4).bind fun x66 =>
    (idx a0 v13_3).bind fun x68 =>
    bif (x66 == x68) then
      some (.done (.ret))
    else
      some (.next (IntKind.i64.wrap (v55_4 + 1)))
  else
    some (.done (.x2))
set_option maxHeartbeats 4000000 in
theorem mandolineref14_keys.l1_ok {α : Type} {F : Env → Heap → Option α} {K : List Fr} (fin : mandolineref14_keys.l1X → Option α) (a0 : (List (List UInt8))) (v13_3 : Int)
    (hx2 : ∀ (e : Env) (H : Heap), e 0 = (.sl (encL AV.str a0)) → e 3 = (.int .i64 v13_3) → outL X [] F K e H 2 = fin (.x2))
    (hret : ∀ (e : Env) (H : Heap), e 2 = (.bool false) → F e H = fin (.ret)) (v55_4 : Int) (e : Env) (H : Heap) (g0_55 : e 0 = (.sl (encL AV.str a0))) (g3_55 : e 3 = (.int .i64 v13_3)) (g4_55 : e 4 = (.int .i64 v55_4)) :
    runL X [] F (.c (.loop c26_l0) :: K) e H = (loopL (mandolineref14_keys.l1B v13_3 a0) v55_4).bind fin := by
  refine loop_of (R := fun (v55_4 : Int) (e : Env) (H : Heap) => e 0 = (.sl (encL AV.str a0)) ∧ e 3 = (.int .i64 v13_3) ∧ e 4 = (.int .i64 v55_4)) fin ?_ ⟨g0_55, g3_55, g4_55⟩
  clear g4_55 g3_55 g0_55 e H v55_4
  intro n G hn hd s e H hR
  revert hR; revert s; intro v55_4 hR
  obtain ⟨g0_55, g3_55, g4_55⟩ := hR
  simp only [D, DT, reduceIte, reduceCtorEq, Nat.reduceEqDiff, Nat.reduceAdd, Nat.reduceLT, Nat.reduceLeDiff, Nat.reduceBEq, Int.reduceLE, Int.reduceLT, Int.reduceEq, Int.reduceNeg, mandolineref14_keys.l1B, g0_55, g3_55, g4_55, c26_l0]
  cases h64 : (decide (v55_4 < v13_3))
  · simp only [D, DT, reduceIte, reduceCtorEq, Nat.reduceEqDiff, Nat.reduceAdd, Nat.reduceLT, Nat.reduceLeDiff, Nat.reduceBEq, Int.reduceLE, Int.reduceLT, Int.reduceEq, Int.reduceNeg, g0_55, g3_55, g4_55, c26_l0, h64]
    exact (hx2 _ _ (by first | (simp only [D, DT, reduceIte, reduceCtorEq, Nat.reduceEqDiff, Nat.reduceAdd, Nat.reduceLT, Nat.reduceLeDiff, Nat.reduceBEq, Int.reduceLE, Int.reduceLT, Int.reduceEq, Int.reduceNeg, g0_55, g3_55, g4_55, c26_l0, h64] <;> rfl) | rfl) (by first | (simp only [D, DT, reduceIte, reduceCtorEq, Nat.reduceEqDiff, Nat.reduceAdd, Nat.reduceLT, Nat.reduceLeDiff, Nat.reduceBEq, Int.reduceLE, Int.reduceLT, Int.reduceEq, Int.reduceNeg, g0_55, g3_55, g4_55, c26_l0, h64] <;> rfl) | rfl)).trans (hd _).symm
  · simp only [D, DT, reduceIte, reduceCtorEq, Nat.reduceEqDiff, Nat.reduceAdd, Nat.reduceLT, Nat.reduceLeDiff, Nat.reduceBEq, Int.reduceLE, Int.reduceLT, Int.reduceEq, Int.reduceNeg, g0_55, g3_55, g4_55, c26_l0, h64]
    rcases h65 : idx a0 v55_4 with _ | x66
    · simp only [D, DT, reduceIte, reduceCtorEq, Nat.reduceEqDiff, Nat.reduceAdd, Nat.reduceLT, Nat.reduceLeDiff, Nat.reduceBEq, Int.reduceLE, Int.reduceLT, Int.reduceEq, Int.reduceNeg, g0_55, g3_55, g4_55, c26_l0, h64, h65]
    · simp only [D, DT, reduceIte, reduceCtorEq, Nat.reduceEqDiff, Nat.reduceAdd, Nat.reduceLT, Nat.reduceLeDiff, Nat.reduceBEq, Int.reduceLE, Int.reduceLT, Int.reduceEq, Int.reduceNeg, g0_55, g3_55, g4_55, c26_l0, h64, h65]
      rcases h67 : idx a0 v13_3 with _ | x68
      · simp only [D, DT, reduceIte, reduceCtorEq, Nat.reduceEqDiff, Nat.reduceAdd, Nat.reduceLT, Nat.reduceLeDiff, Nat.reduceBEq, Int.reduceLE, Int.reduceLT, Int.reduceEq, Int.reduceNeg, g0_55, g3_55, g4_55, c26_l0, h64, h65, h67]
      · simp only [D, DT, reduceIte, reduceCtorEq, Nat.reduceEqDiff, Nat.reduceAdd, Nat.reduceLT, Nat.reduceLeDiff, Nat.reduceBEq, Int.reduceLE, Int.reduceLT, Int.reduceEq, Int.reduceNeg, g0_55, g3_55, g4_55, c26_l0, h64, h65, h67]
        cases h69 : (x66 == x68)
        · simp only [D, DT, reduceIte, reduceCtorEq, Nat.reduceEqDiff, Nat.reduceAdd, Nat.reduceLT, Nat.reduceLeDiff, Nat.reduceBEq, Int.reduceLE, Int.reduceLT, Int.reduceEq, Int.reduceNeg, g0_55, g3_55, g4_55, c26_l0, h64, h65, h67, h69]
          exact hn _ _ _ ⟨(by first | (simp only [D, DT, reduceIte, reduceCtorEq, Nat.reduceEqDiff, Nat.reduceAdd, Nat.reduceLT, Nat.reduceLeDiff, Nat.reduceBEq, Int.reduceLE, Int.reduceLT, Int.reduceEq, Int.reduceNeg, g0_55, g3_55, g4_55, c26_l0, h64, h65, h67, h69] <;> rfl) | rfl), (by first | (simp only [D, DT, reduceIte, reduceCtorEq, Nat.reduceEqDiff, Nat.reduceAdd, Nat.reduceLT, Nat.reduceLeDiff, Nat.reduceBEq, Int.reduceLE, Int.reduceLT, Int.reduceEq, Int.reduceNeg, g0_55, g3_55, g4_55, c26_l0, h64, h65, h67, h69] <;> rfl) | rfl), (by first | (simp only [D, DT, reduceIte, reduceCtorEq, Nat.reduceEqDiff, Nat.reduceAdd, Nat.reduceLT, Nat.reduceLeDiff, Nat.reduceBEq, Int.reduceLE, Int.reduceLT, Int.reduceEq, Int.reduceNeg, g0_55, g3_55, g4_55, c26_l0, h64, h65, h67, h69] <;> rfl) | rfl)⟩
        · simp only [D, DT, reduceIte, reduceCtorEq, Nat.reduceEqDiff, Nat.reduceAdd, Nat.reduceLT, Nat.reduceLeDiff, Nat.reduceBEq, Int.reduceLE, Int.reduceLT, Int.reduceEq, Int.reduceNeg, g0_55, g3_55, g4_55, c26_l0, h64, h65, h67, h69]
          exact (hret _ _ (by first | (simp only [D, DT, reduceIte, reduceCtorEq, Nat.reduceEqDiff, Nat.reduceAdd, Nat.reduceLT, Nat.reduceLeDiff, Nat.reduceBEq, Int.reduceLE, Int.reduceLT, Int.reduceEq, Int.reduceNeg, g0_55, g3_55, g4_55, c26_l0, h64, h65, h67, h69] <;> rfl) | rfl)).trans (hd _).symm
noncomputable def mandolineref14_keys.a1 (v13_3 : Int) : mandolineref14_keys.l1X → Option (Step (Int) mandolineref14_keys.l0X)
  | .x2 =>
    some (.next (IntKind.i64.wrap (v13_3 + 1)))
  | .ret =>
    some (.done (.ret))
noncomputable def mandolineref14_keys.l0B (a0 : (List (List UInt8))) (v13_3 : Int) : Option (Step (Int) mandolineref14_keys.l0X) :=
  bif (decide (v13_3 < (a0.length : Int))) then
    (idx a0 v13_3).bind fun x43 =>
    (mandolineref14_Key.f x43).bind fun x46 =>
    bif x46 then
      (loopL (mandolineref14_keys.l1B v13_3 a0) 0).bind (mandolineref14_keys.a1 v13_3)
    else
      some (.done (.ret))
  else
    some (.done (.x0))
set_option maxHeartbeats 4000000 in
theorem mandolineref14_keys.l0_ok {α : Type} {F : Env → Heap → Option α} {K : List Fr} (fin : mandolineref14_keys.l0X → Option α) (a0 : (List (List UInt8)))
    (hx0 : ∀ (e : Env) (H : Heap), outL X [] F K e H 0 = fin (.x0))
    (hret : ∀ (e : Env) (H : Heap), e 2 = (.bool false) → F e H = fin (.ret)) (v13_3 : Int) (e : Env) (H : Heap) (g0_13 : e 0 = (.sl (encL AV.str a0))) (g3_13 : e 3 = (.int .i64 v13_3)) :
    runL X [] F (.c (.loop c26_l1) :: K) e H = (loopL (mandolineref14_keys.l0B a0) v13_3).bind fin := by
  refine loop_of (R := fun (v13_3 : Int) (e : Env) (H : Heap) => e 0 = (.sl (encL AV.str a0)) ∧ e 3 = (.int .i64 v13_3)) fin ?_ ⟨g0_13, g3_13⟩
  clear g3_13 g0_13 e H v13_3
  intro n G hn hd s e H hR
  revert hR; revert s; intro v13_3 hR
  obtain ⟨g0_13, g3_13⟩ := hR
  simp only [D, DT, reduceIte, reduceCtorEq, Nat.reduceEqDiff, Nat.reduceAdd, Nat.reduceLT, Nat.reduceLeDiff, Nat.reduceBEq, Int.reduceLE, Int.reduceLT, Int.reduceEq, Int.reduceNeg, mandolineref14_keys.l0B, g0_13, g3_13, c26_l1]
  cases h41 : (decide (v13_3 < (a0.length : Int)))
  · simp only [D, DT, reduceIte, reduceCtorEq, Nat.reduceEqDiff, Nat.reduceAdd, Nat.reduceLT, Nat.reduceLeDiff, Nat.reduceBEq, Int.reduceLE, Int.reduceLT, Int.reduceEq, Int.reduceNeg, g0_13, g3_13, c26_l1, h41]
    exact (hx0 _ _).trans (hd _).symm
  · simp only [D, DT, reduceIte, reduceCtorEq, Nat.reduceEqDiff, Nat.reduceAdd, Nat.reduceLT, Nat.reduceLeDiff, Nat.reduceBEq, Int.reduceLE, Int.reduceLT, Int.reduceEq, Int.reduceNeg, g0_13, g3_13, c26_l1, h41]
    rcases h42 : idx a0 v13_3 with _ | x43
    · simp only [D, DT, reduceIte, reduceCtorEq, Nat.reduceEqDiff, Nat.reduceAdd, Nat.reduceLT, Nat.reduceLeDiff, Nat.reduceBEq, Int.reduceLE, Int.reduceLT, Int.reduceEq, Int.reduceNeg, g0_13, g3_13, c26_l1, h41, h42]
    · simp only [D, DT, reduceIte, reduceCtorEq, Nat.reduceEqDiff, Nat.reduceAdd, Nat.reduceLT, Nat.reduceLeDiff, Nat.reduceBEq, Int.reduceLE, Int.reduceLT, Int.reduceEq, Int.reduceNeg, g0_13, g3_13, c26_l1, h41, h42]
      have c44 : ansL X 50 [(.str x43)] = Option.map AV.bool (mandolineref14_Key.f x43) := mandolineref14_Key.ok x43
      rcases h45 : mandolineref14_Key.f x43 with _ | x46
      · simp only [D, DT, reduceIte, reduceCtorEq, Nat.reduceEqDiff, Nat.reduceAdd, Nat.reduceLT, Nat.reduceLeDiff, Nat.reduceBEq, Int.reduceLE, Int.reduceLT, Int.reduceEq, Int.reduceNeg, g0_13, g3_13, c26_l1, h41, h42, c44, h45]
      · simp only [D, DT, reduceIte, reduceCtorEq, Nat.reduceEqDiff, Nat.reduceAdd, Nat.reduceLT, Nat.reduceLeDiff, Nat.reduceBEq, Int.reduceLE, Int.reduceLT, Int.reduceEq, Int.reduceNeg, g0_13, g3_13, c26_l1, h41, h42, c44, h45]
        cases h47 : x46
        · simp only [D, DT, reduceIte, reduceCtorEq, Nat.reduceEqDiff, Nat.reduceAdd, Nat.reduceLT, Nat.reduceLeDiff, Nat.reduceBEq, Int.reduceLE, Int.reduceLT, Int.reduceEq, Int.reduceNeg, g0_13, g3_13, c26_l1, h41, h42, c44, h45, h47]
          exact (hret _ _ (by first | (simp only [D, DT, reduceIte, reduceCtorEq, Nat.reduceEqDiff, Nat.reduceAdd, Nat.reduceLT, Nat.reduceLeDiff, Nat.reduceBEq, Int.reduceLE, Int.reduceLT, Int.reduceEq, Int.reduceNeg, g0_13, g3_13, c26_l1, h41, h42, c44, h45, h47] <;> rfl) | rfl)).trans (hd _).symm
        · simp only [D, DT, reduceIte, reduceCtorEq, Nat.reduceEqDiff, Nat.reduceAdd, Nat.reduceLT, Nat.reduceLeDiff, Nat.reduceBEq, Int.reduceLE, Int.reduceLT, Int.reduceEq, Int.reduceNeg, g0_13, g3_13, c26_l1, h41, h42, c44, h45, h47]
          refine Eq.trans (mandolineref14_keys.l1_ok (fun x => (mandolineref14_keys.a1 v13_3 x).bind G) a0 v13_3 ?_ ?_ 0 _ _ (by first | (simp only [D, DT, reduceIte, reduceCtorEq, Nat.reduceEqDiff, Nat.reduceAdd, Nat.reduceLT, Nat.reduceLeDiff, Nat.reduceBEq, Int.reduceLE, Int.reduceLT, Int.reduceEq, Int.reduceNeg, g0_13, g3_13, c26_l1, h41, h42, c44, h45, h47] <;> rfl) | rfl) (by first | (simp only [D, DT, reduceIte, reduceCtorEq, Nat.reduceEqDiff, Nat.reduceAdd, Nat.reduceLT, Nat.reduceLeDiff, Nat.reduceBEq, Int.reduceLE, Int.reduceLT, Int.reduceEq, Int.reduceNeg, g0_13, g3_13, c26_l1, h41, h42, c44, h45, h47] <;> rfl) | rfl) (by first | (simp only [D, DT, reduceIte, reduceCtorEq, Nat.reduceEqDiff, Nat.reduceAdd, Nat.reduceLT, Nat.reduceLeDiff, Nat.reduceBEq, Int.reduceLE, Int.reduceLT, Int.reduceEq, Int.reduceNeg, g0_13, g3_13, c26_l1, h41, h42, c44, h45, h47] <;> rfl) | rfl)) ?_
          · intro e_70 H_70 g0_62_70 g3_62_70
            simp only [D, DT, reduceIte, reduceCtorEq, Nat.reduceEqDiff, Nat.reduceAdd, Nat.reduceLT, Nat.reduceLeDiff, Nat.reduceBEq, Int.reduceLE, Int.reduceLT, Int.reduceEq, Int.reduceNeg, mandolineref14_keys.a1, g0_13, g3_13, c26_l1, h41, h42, c44, h45, h47, g0_62_70, g3_62_70]
            exact hn _ _ _ ⟨(by first | (simp only [D, DT, reduceIte, reduceCtorEq, Nat.reduceEqDiff, Nat.reduceAdd, Nat.reduceLT, Nat.reduceLeDiff, Nat.reduceBEq, Int.reduceLE, Int.reduceLT, Int.reduceEq, Int.reduceNeg, g0_13, g3_13, c26_l1, h41, h42, c44, h45, h47, g0_62_70, g3_62_70] <;> rfl) | rfl), (by first | (simp only [D, DT, reduceIte, reduceCtorEq, Nat.reduceEqDiff, Nat.reduceAdd, Nat.reduceLT, Nat.reduceLeDiff, Nat.reduceBEq, Int.reduceLE, Int.reduceLT, Int.reduceEq, Int.reduceNeg, g0_13, g3_13, c26_l1, h41, h42, c44, h45, h47, g0_62_70, g3_62_70] <;> rfl) | rfl)⟩
          · intro e_71 H_71 g2_63_71
            simp only [D, DT, reduceIte, reduceCtorEq, Nat.reduceEqDiff, Nat.reduceAdd, Nat.reduceLT, Nat.reduceLeDiff, Nat.reduceBEq, Int.reduceLE, Int.reduceLT, Int.reduceEq, Int.reduceNeg, mandolineref14_keys.a1, g0_13, g3_13, c26_l1, h41, h42, c44, h45, h47, g2_63_71]
            exact (hret _ _ (by first | (simp only [D, DT, reduceIte, reduceCtorEq, Nat.reduceEqDiff, Nat.reduceAdd, Nat.reduceLT, Nat.reduceLeDiff, Nat.reduceBEq, Int.reduceLE, Int.reduceLT, Int.reduceEq, Int.reduceNeg, g0_13, g3_13, c26_l1, h41, h42, c44, h45, h47, g2_63_71] <;> rfl) | rfl)).trans (hd _).symm
          exact bb _ _ _
noncomputable def mandolineref14_keys.a0 : mandolineref14_keys.l0X → Option Bool
  | .x0 =>
    some true
  | .ret =>
    some false
noncomputable def mandolineref14_keys.f (a0 : (List (List UInt8))) : Option Bool :=
  bif (decide ((32 : Int) < (a0.length : Int))) then
    some false
  else
    (loopL (mandolineref14_keys.l0B a0) 0).bind (mandolineref14_keys.a0)
set_option maxHeartbeats 4000000 in
theorem mandolineref14_keys.ok (a0 : (List (List UInt8))) : ansL X 26 [(.sl (encL AV.str a0))] = Option.map AV.bool (mandolineref14_keys.f a0) := by
  rw [ansL_run (fd := c26) rfl rfl]
  simp only [D, DT, reduceIte, reduceCtorEq, Nat.reduceEqDiff, Nat.reduceAdd, Nat.reduceLT, Nat.reduceLeDiff, Nat.reduceBEq, Int.reduceLE, Int.reduceLT, Int.reduceEq, Int.reduceNeg, c26, mandolineref14_keys.f]
  cases h1 : (decide ((32 : Int) < (a0.length : Int)))
  · simp only [D, DT, reduceIte, reduceCtorEq, Nat.reduceEqDiff, Nat.reduceAdd, Nat.reduceLT, Nat.reduceLeDiff, Nat.reduceBEq, Int.reduceLE, Int.reduceLT, Int.reduceEq, Int.reduceNeg, h1]
    refine Eq.trans (mandolineref14_keys.l0_ok (fun x => Option.map AV.bool (mandolineref14_keys.a0 x)) a0 ?_ ?_ 0 _ _ (by first | (simp only [D, DT, reduceIte, reduceCtorEq, Nat.reduceEqDiff, Nat.reduceAdd, Nat.reduceLT, Nat.reduceLeDiff, Nat.reduceBEq, Int.reduceLE, Int.reduceLT, Int.reduceEq, Int.reduceNeg, h1] <;> rfl) | rfl) (by first | (simp only [D, DT, reduceIte, reduceCtorEq, Nat.reduceEqDiff, Nat.reduceAdd, Nat.reduceLT, Nat.reduceLeDiff, Nat.reduceBEq, Int.reduceLE, Int.reduceLT, Int.reduceEq, Int.reduceNeg, h1] <;> rfl) | rfl)) ?_
    · intro e_72 H_72
      simp only [D, DT, reduceIte, reduceCtorEq, Nat.reduceEqDiff, Nat.reduceAdd, Nat.reduceLT, Nat.reduceLeDiff, Nat.reduceBEq, Int.reduceLE, Int.reduceLT, Int.reduceEq, Int.reduceNeg, mandolineref14_keys.a0, h1]
      try rfl
    · intro e_73 H_73 g2_40_73
      simp only [D, DT, reduceIte, reduceCtorEq, Nat.reduceEqDiff, Nat.reduceAdd, Nat.reduceLT, Nat.reduceLeDiff, Nat.reduceBEq, Int.reduceLE, Int.reduceLT, Int.reduceEq, Int.reduceNeg, mandolineref14_keys.a0, h1, g2_40_73]
      try rfl
    exact mb _ _ _
  · simp only [D, DT, reduceIte, reduceCtorEq, Nat.reduceEqDiff, Nat.reduceAdd, Nat.reduceLT, Nat.reduceLeDiff, Nat.reduceBEq, Int.reduceLE, Int.reduceLT, Int.reduceEq, Int.reduceNeg, h1]
    try rfl
inductive mandolineref14_Small.l0X where
  | x0
  | ret
noncomputable def mandolineref14_Small.l0B (a0 : api_Meta) (v9_3 : Int) : Option (Step (Int) mandolineref14_Small.l0X) :=
  bif (decide (v9_3 < (a0.Keys.length : Int))) then
    (idx a0.Keys v9_3).bind fun x18 =>
    bif (decide ((300 : Int) < (x18.length : Int))) then
      some (.done (.ret))
    else
      some (.next (IntKind.i64.wrap (v9_3 + 1)))
  else
    some (.done (.x0))
set_option maxHeartbeats 4000000 in
theorem mandolineref14_Small.l0_ok {α : Type} {F : Env → Heap → Option α} {K : List Fr} (fin : mandolineref14_Small.l0X → Option α) (a0 : api_Meta)
    (hx0 : ∀ (e : Env) (H : Heap), outL X [] F K e H 0 = fin (.x0))
    (hret : ∀ (e : Env) (H : Heap), e 2 = (.bool false) → F e H = fin (.ret)) (v9_3 : Int) (e : Env) (H : Heap) (g1_9 : e 1 = (.ptr [1] 1 0 0)) (g3_9 : e 3 = (.int .i64 v9_3)) (k1_9 : H [1] = (1, some ⟨false, false, 11, [(.agg [(.str a0.Tag_Text), (.bool a0.Tag_Weak), (.int .i64 a0.Modified), (.int .i64 a0.Length), (.int .i64 a0.Have), (.int .i64 a0.Fresh), (.int .i64 a0.While), (.int .i64 a0.Error), (.sl (encL AV.str a0.Keys)), (.str a0.Tenant), (.bool a0.Keep)])]⟩)) :
    runL X [] F (.c (.loop c8_l0) :: K) e H = (loopL (mandolineref14_Small.l0B a0) v9_3).bind fin := by
  refine loop_of (R := fun (v9_3 : Int) (e : Env) (H : Heap) => e 1 = (.ptr [1] 1 0 0) ∧ e 3 = (.int .i64 v9_3) ∧ H [1] = (1, some ⟨false, false, 11, [(.agg [(.str a0.Tag_Text), (.bool a0.Tag_Weak), (.int .i64 a0.Modified), (.int .i64 a0.Length), (.int .i64 a0.Have), (.int .i64 a0.Fresh), (.int .i64 a0.While), (.int .i64 a0.Error), (.sl (encL AV.str a0.Keys)), (.str a0.Tenant), (.bool a0.Keep)])]⟩)) fin ?_ ⟨g1_9, g3_9, k1_9⟩
  clear k1_9 g3_9 g1_9 e H v9_3
  intro n G hn hd s e H hR
  revert hR; revert s; intro v9_3 hR
  obtain ⟨g1_9, g3_9, k1_9⟩ := hR
  simp only [D, DT, reduceIte, reduceCtorEq, Nat.reduceEqDiff, Nat.reduceAdd, Nat.reduceLT, Nat.reduceLeDiff, Nat.reduceBEq, Int.reduceLE, Int.reduceLT, Int.reduceEq, Int.reduceNeg, mandolineref14_Small.l0B, g1_9, g3_9, k1_9, c8_l0]
  cases h16 : (decide (v9_3 < (a0.Keys.length : Int)))
  · simp only [D, DT, reduceIte, reduceCtorEq, Nat.reduceEqDiff, Nat.reduceAdd, Nat.reduceLT, Nat.reduceLeDiff, Nat.reduceBEq, Int.reduceLE, Int.reduceLT, Int.reduceEq, Int.reduceNeg, g1_9, g3_9, k1_9, c8_l0, h16]
    exact (hx0 _ _).trans (hd _).symm
  · simp only [D, DT, reduceIte, reduceCtorEq, Nat.reduceEqDiff, Nat.reduceAdd, Nat.reduceLT, Nat.reduceLeDiff, Nat.reduceBEq, Int.reduceLE, Int.reduceLT, Int.reduceEq, Int.reduceNeg, g1_9, g3_9, k1_9, c8_l0, h16]
    rcases h17 : idx a0.Keys v9_3 with _ | x18
    · simp only [D, DT, reduceIte, reduceCtorEq, Nat.reduceEqDiff, Nat.reduceAdd, Nat.reduceLT, Nat.reduceLeDiff, Nat.reduceBEq, Int.reduceLE, Int.reduceLT, Int.reduceEq, Int.reduceNeg, g1_9, g3_9, k1_9, c8_l0, h16, h17]
    · simp only [D, DT, reduceIte, reduceCtorEq, Nat.reduceEqDiff, Nat.reduceAdd, Nat.reduceLT, Nat.reduceLeDiff, Nat.reduceBEq, Int.reduceLE, Int.reduceLT, Int.reduceEq, Int.reduceNeg, g1_9, g3_9, k1_9, c8_l0, h16, h17]
      cases h19 : (decide ((300 : Int) < (x18.length : Int)))
      · simp only [D, DT, reduceIte, reduceCtorEq, Nat.reduceEqDiff, Nat.reduceAdd, Nat.reduceLT, Nat.reduceLeDiff, Nat.reduceBEq, Int.reduceLE, Int.reduceLT, Int.reduceEq, Int.reduceNeg, g1_9, g3_9, k1_9, c8_l0, h16, h17, h19]
        exact hn _ _ _ ⟨(by first | (simp only [D, DT, reduceIte, reduceCtorEq, Nat.reduceEqDiff, Nat.reduceAdd, Nat.reduceLT, Nat.reduceLeDiff, Nat.reduceBEq, Int.reduceLE, Int.reduceLT, Int.reduceEq, Int.reduceNeg, g1_9, g3_9, k1_9, c8_l0, h16, h17, h19] <;> rfl) | rfl), (by first | (simp only [D, DT, reduceIte, reduceCtorEq, Nat.reduceEqDiff, Nat.reduceAdd, Nat.reduceLT, Nat.reduceLeDiff, Nat.reduceBEq, Int.reduceLE, Int.reduceLT, Int.reduceEq, Int.reduceNeg, g1_9, g3_9, k1_9, c8_l0, h16, h17, h19] <;> rfl) | rfl), (by first | (simp only [D, DT, reduceIte, reduceCtorEq, Nat.reduceEqDiff, Nat.reduceAdd, Nat.reduceLT, Nat.reduceLeDiff, Nat.reduceBEq, Int.reduceLE, Int.reduceLT, Int.reduceEq, Int.reduceNeg, g1_9, g3_9, k1_9, c8_l0, h16, h17, h19] <;> rfl) | rfl)⟩
      · simp only [D, DT, reduceIte, reduceCtorEq, Nat.reduceEqDiff, Nat.reduceAdd, Nat.reduceLT, Nat.reduceLeDiff, Nat.reduceBEq, Int.reduceLE, Int.reduceLT, Int.reduceEq, Int.reduceNeg, g1_9, g3_9, k1_9, c8_l0, h16, h17, h19]
        exact (hret _ _ (by first | (simp only [D, DT, reduceIte, reduceCtorEq, Nat.reduceEqDiff, Nat.reduceAdd, Nat.reduceLT, Nat.reduceLeDiff, Nat.reduceBEq, Int.reduceLE, Int.reduceLT, Int.reduceEq, Int.reduceNeg, g1_9, g3_9, k1_9, c8_l0, h16, h17, h19] <;> rfl) | rfl)).trans (hd _).symm
noncomputable def mandolineref14_Small.a0 : mandolineref14_Small.l0X → Option Bool
  | .x0 =>
    some true
  | .ret =>
    some false
noncomputable def mandolineref14_Small.f (a0 : api_Meta) : Option Bool :=
  bif (decide ((200 : Int) < (a0.Tag_Text.length : Int))) then
    some false
  else
    bif (decide ((40 : Int) < (a0.Keys.length : Int))) then
      some false
    else
      bif (decide ((100 : Int) < (a0.Tenant.length : Int))) then
        some false
      else
        (loopL (mandolineref14_Small.l0B a0) 0).bind (mandolineref14_Small.a0)
set_option maxHeartbeats 4000000 in
theorem mandolineref14_Small.ok (a0 : api_Meta) : ansL X 8 [(.agg [(.str a0.Tag_Text), (.bool a0.Tag_Weak), (.int .i64 a0.Modified), (.int .i64 a0.Length), (.int .i64 a0.Have), (.int .i64 a0.Fresh), (.int .i64 a0.While), (.int .i64 a0.Error), (.sl (encL AV.str a0.Keys)), (.str a0.Tenant), (.bool a0.Keep)])] = Option.map AV.bool (mandolineref14_Small.f a0) := by
  rw [ansL_run (fd := c8) rfl rfl]
  simp only [D, DT, reduceIte, reduceCtorEq, Nat.reduceEqDiff, Nat.reduceAdd, Nat.reduceLT, Nat.reduceLeDiff, Nat.reduceBEq, Int.reduceLE, Int.reduceLT, Int.reduceEq, Int.reduceNeg, c8, mandolineref14_Small.f]
  cases h1 : (decide ((200 : Int) < (a0.Tag_Text.length : Int)))
  · simp only [D, DT, reduceIte, reduceCtorEq, Nat.reduceEqDiff, Nat.reduceAdd, Nat.reduceLT, Nat.reduceLeDiff, Nat.reduceBEq, Int.reduceLE, Int.reduceLT, Int.reduceEq, Int.reduceNeg, h1]
    cases h2 : (decide ((40 : Int) < (a0.Keys.length : Int)))
    · simp only [D, DT, reduceIte, reduceCtorEq, Nat.reduceEqDiff, Nat.reduceAdd, Nat.reduceLT, Nat.reduceLeDiff, Nat.reduceBEq, Int.reduceLE, Int.reduceLT, Int.reduceEq, Int.reduceNeg, h1, h2]
      cases h3 : (decide ((100 : Int) < (a0.Tenant.length : Int)))
      · simp only [D, DT, reduceIte, reduceCtorEq, Nat.reduceEqDiff, Nat.reduceAdd, Nat.reduceLT, Nat.reduceLeDiff, Nat.reduceBEq, Int.reduceLE, Int.reduceLT, Int.reduceEq, Int.reduceNeg, h1, h2, h3]
        refine Eq.trans (mandolineref14_Small.l0_ok (fun x => Option.map AV.bool (mandolineref14_Small.a0 x)) a0 ?_ ?_ 0 _ _ (by first | (simp only [D, DT, reduceIte, reduceCtorEq, Nat.reduceEqDiff, Nat.reduceAdd, Nat.reduceLT, Nat.reduceLeDiff, Nat.reduceBEq, Int.reduceLE, Int.reduceLT, Int.reduceEq, Int.reduceNeg, h1, h2, h3] <;> rfl) | rfl) (by first | (simp only [D, DT, reduceIte, reduceCtorEq, Nat.reduceEqDiff, Nat.reduceAdd, Nat.reduceLT, Nat.reduceLeDiff, Nat.reduceBEq, Int.reduceLE, Int.reduceLT, Int.reduceEq, Int.reduceNeg, h1, h2, h3] <;> rfl) | rfl) (by first | (simp only [D, DT, reduceIte, reduceCtorEq, Nat.reduceEqDiff, Nat.reduceAdd, Nat.reduceLT, Nat.reduceLeDiff, Nat.reduceBEq, Int.reduceLE, Int.reduceLT, Int.reduceEq, Int.reduceNeg, h1, h2, h3] <;> rfl) | rfl)) ?_
        · intro e_20 H_20
          simp only [D, DT, reduceIte, reduceCtorEq, Nat.reduceEqDiff, Nat.reduceAdd, Nat.reduceLT, Nat.reduceLeDiff, Nat.reduceBEq, Int.reduceLE, Int.reduceLT, Int.reduceEq, Int.reduceNeg, mandolineref14_Small.a0, h1, h2, h3]
          try rfl
        · intro e_21 H_21 g2_15_21
          simp only [D, DT, reduceIte, reduceCtorEq, Nat.reduceEqDiff, Nat.reduceAdd, Nat.reduceLT, Nat.reduceLeDiff, Nat.reduceBEq, Int.reduceLE, Int.reduceLT, Int.reduceEq, Int.reduceNeg, mandolineref14_Small.a0, h1, h2, h3, g2_15_21]
          try rfl
        exact mb _ _ _
      · simp only [D, DT, reduceIte, reduceCtorEq, Nat.reduceEqDiff, Nat.reduceAdd, Nat.reduceLT, Nat.reduceLeDiff, Nat.reduceBEq, Int.reduceLE, Int.reduceLT, Int.reduceEq, Int.reduceNeg, h1, h2, h3]
        try rfl
    · simp only [D, DT, reduceIte, reduceCtorEq, Nat.reduceEqDiff, Nat.reduceAdd, Nat.reduceLT, Nat.reduceLeDiff, Nat.reduceBEq, Int.reduceLE, Int.reduceLT, Int.reduceEq, Int.reduceNeg, h1, h2]
      try rfl
  · simp only [D, DT, reduceIte, reduceCtorEq, Nat.reduceEqDiff, Nat.reduceAdd, Nat.reduceLT, Nat.reduceLeDiff, Nat.reduceBEq, Int.reduceLE, Int.reduceLT, Int.reduceEq, Int.reduceNeg, h1]
    try rfl
inductive meta_Right.l0X where
  | x1
  | ret
noncomputable def meta_Right.l0B (a0 : api_Meta) (v45_10 : Int) (v45_h6_0 : List ((List UInt8) × Bool)) : Option (Step (Int × (List ((List UInt8) × Bool))) meta_Right.l0X) :=
  bif (decide (v45_10 < (a0.Keys.length : Int))) then
    (idx a0.Keys v45_10).bind fun x60 =>
    (meta_key.f x60).bind fun x63 =>
    bif x63 then
      bif ((mget v45_h6_0 x60).getD false) then
        some (.done (.ret))
      else
        some (.next ((IntKind.i64.wrap (v45_10 + 1)), (mput v45_h6_0 x60 true)))
    else
      some (.done (.ret))
  else
    some (.done (.x1))
set_option maxHeartbeats 4000000 in
theorem meta_Right.l0_ok {α : Type} {F : Env → Heap → Option α} {K : List Fr} (fin : meta_Right.l0X → Option α) (a0 : api_Meta) (u45_6 : Nat)
    (hx1 : ∀ (e : Env) (H : Heap), outL X [] F K e H 1 = fin (.x1))
    (hret : ∀ (e : Env) (H : Heap), e 2 = (.bool false) → F e H = fin (.ret)) (v45_10 : Int) (v45_h6_0 : List ((List UInt8) × Bool)) (e : Env) (H : Heap) (g3_45 : e 3 = (.map [6] u45_6)) (g8_45 : e 8 = (.sl (encL AV.str a0.Keys))) (g9_45 : e 9 = (.int .i64 (a0.Keys.length : Int))) (g10_45 : e 10 = (.int .i64 v45_10)) (k6_45 : H [6] = (u45_6, some ⟨false, false, 0, [(.tup (encM AV.str AV.bool v45_h6_0))]⟩)) :
    runL X [] F (.c (.loop c9_l0) :: K) e H = (loopL (fun (s : Int × (List ((List UInt8) × Bool))) => meta_Right.l0B a0 s.1 s.2) (v45_10, v45_h6_0)).bind fin := by
  refine loop_of (R := fun (s : Int × (List ((List UInt8) × Bool))) (e : Env) (H : Heap) => (fun (v45_10 : Int) (v45_h6_0 : List ((List UInt8) × Bool)) => e 3 = (.map [6] u45_6) ∧ e 8 = (.sl (encL AV.str a0.Keys)) ∧ e 9 = (.int .i64 (a0.Keys.length : Int)) ∧ e 10 = (.int .i64 v45_10) ∧ H [6] = (u45_6, some ⟨false, false, 0, [(.tup (encM AV.str AV.bool v45_h6_0))]⟩)) s.1 s.2) fin ?_ ⟨g3_45, g8_45, g9_45, g10_45, k6_45⟩
  clear k6_45 g10_45 g9_45 g8_45 g3_45 e H v45_h6_0 v45_10
  intro n G hn hd s e H hR
  obtain ⟨v45_10, v45_h6_0⟩ := s
  obtain ⟨g3_45, g8_45, g9_45, g10_45, k6_45⟩ := hR
  simp only [D, DT, reduceIte, reduceCtorEq, Nat.reduceEqDiff, Nat.reduceAdd, Nat.reduceLT, Nat.reduceLeDiff, Nat.reduceBEq, Int.reduceLE, Int.reduceLT, Int.reduceEq, Int.reduceNeg, meta_Right.l0B, g3_45, g8_45, g9_45, g10_45, k6_45, c9_l0]
  cases h58 : (decide (v45_10 < (a0.Keys.length : Int)))
  · simp only [D, DT, reduceIte, reduceCtorEq, Nat.reduceEqDiff, Nat.reduceAdd, Nat.reduceLT, Nat.reduceLeDiff, Nat.reduceBEq, Int.reduceLE, Int.reduceLT, Int.reduceEq, Int.reduceNeg, g3_45, g8_45, g9_45, g10_45, k6_45, c9_l0, h58]
    exact (hx1 _ _).trans (hd _).symm
  · simp only [D, DT, reduceIte, reduceCtorEq, Nat.reduceEqDiff, Nat.reduceAdd, Nat.reduceLT, Nat.reduceLeDiff, Nat.reduceBEq, Int.reduceLE, Int.reduceLT, Int.reduceEq, Int.reduceNeg, g3_45, g8_45, g9_45, g10_45, k6_45, c9_l0, h58]
    rcases h59 : idx a0.Keys v45_10 with _ | x60
    · simp only [D, DT, reduceIte, reduceCtorEq, Nat.reduceEqDiff, Nat.reduceAdd, Nat.reduceLT, Nat.reduceLeDiff, Nat.reduceBEq, Int.reduceLE, Int.reduceLT, Int.reduceEq, Int.reduceNeg, g3_45, g8_45, g9_45, g10_45, k6_45, c9_l0, h58, h59]
    · simp only [D, DT, reduceIte, reduceCtorEq, Nat.reduceEqDiff, Nat.reduceAdd, Nat.reduceLT, Nat.reduceLeDiff, Nat.reduceBEq, Int.reduceLE, Int.reduceLT, Int.reduceEq, Int.reduceNeg, g3_45, g8_45, g9_45, g10_45, k6_45, c9_l0, h58, h59]
      have c61 : ansL X 23 [(.str x60)] = Option.map AV.bool (meta_key.f x60) := meta_key.ok x60
      rcases h62 : meta_key.f x60 with _ | x63
      · simp only [D, DT, reduceIte, reduceCtorEq, Nat.reduceEqDiff, Nat.reduceAdd, Nat.reduceLT, Nat.reduceLeDiff, Nat.reduceBEq, Int.reduceLE, Int.reduceLT, Int.reduceEq, Int.reduceNeg, g3_45, g8_45, g9_45, g10_45, k6_45, c9_l0, h58, h59, c61, h62]
      · simp only [D, DT, reduceIte, reduceCtorEq, Nat.reduceEqDiff, Nat.reduceAdd, Nat.reduceLT, Nat.reduceLeDiff, Nat.reduceBEq, Int.reduceLE, Int.reduceLT, Int.reduceEq, Int.reduceNeg, g3_45, g8_45, g9_45, g10_45, k6_45, c9_l0, h58, h59, c61, h62]
        cases h64 : x63
        · simp only [D, DT, reduceIte, reduceCtorEq, Nat.reduceEqDiff, Nat.reduceAdd, Nat.reduceLT, Nat.reduceLeDiff, Nat.reduceBEq, Int.reduceLE, Int.reduceLT, Int.reduceEq, Int.reduceNeg, g3_45, g8_45, g9_45, g10_45, k6_45, c9_l0, h58, h59, c61, h62, h64]
          exact (hret _ _ (by first | (simp only [D, DT, reduceIte, reduceCtorEq, Nat.reduceEqDiff, Nat.reduceAdd, Nat.reduceLT, Nat.reduceLeDiff, Nat.reduceBEq, Int.reduceLE, Int.reduceLT, Int.reduceEq, Int.reduceNeg, g3_45, g8_45, g9_45, g10_45, k6_45, c9_l0, h58, h59, c61, h62, h64] <;> rfl) | rfl)).trans (hd _).symm
        · simp only [D, DT, reduceIte, reduceCtorEq, Nat.reduceEqDiff, Nat.reduceAdd, Nat.reduceLT, Nat.reduceLeDiff, Nat.reduceBEq, Int.reduceLE, Int.reduceLT, Int.reduceEq, Int.reduceNeg, g3_45, g8_45, g9_45, g10_45, k6_45, c9_l0, h58, h59, c61, h62, h64]
          have o65 := fun (HH : Heap) (h : HH [6] = (u45_6, some ⟨false, false, 0, [(.tup (encM AV.str AV.bool v45_h6_0))]⟩)) => lookup_get (f := AV.str) (g := AV.bool) (q := .str) (z := false) (ok := false) (H := HH) (x := x60) key_str (fun _ => by first | rfl | simp [isKeyA]) h
          simp only [D, DT, reduceIte, reduceCtorEq, Nat.reduceEqDiff, Nat.reduceAdd, Nat.reduceLT, Nat.reduceLeDiff, Nat.reduceBEq, Int.reduceLE, Int.reduceLT, Int.reduceEq, Int.reduceNeg, g3_45, g8_45, g9_45, g10_45, k6_45, c9_l0, h58, h59, c61, h62, h64, o65]
          cases h66 : ((mget v45_h6_0 x60).getD false)
          · simp only [D, DT, reduceIte, reduceCtorEq, Nat.reduceEqDiff, Nat.reduceAdd, Nat.reduceLT, Nat.reduceLeDiff, Nat.reduceBEq, Int.reduceLE, Int.reduceLT, Int.reduceEq, Int.reduceNeg, g3_45, g8_45, g9_45, g10_45, k6_45, c9_l0, h58, h59, c61, h62, h64, o65, h66]
            have o67 := fun (HH : Heap) (h : HH [6] = (u45_6, some ⟨false, false, 0, [(.tup (encM AV.str AV.bool v45_h6_0))]⟩)) => mapSet_enc (f := AV.str) (g := AV.bool) (q := .str) (H := HH) (x := x60) (v := true) key_str (fun _ => by first | rfl | simp [isKeyA]) (fun _ => ⟨rfl, rfl⟩) h
            simp only [D, DT, reduceIte, reduceCtorEq, Nat.reduceEqDiff, Nat.reduceAdd, Nat.reduceLT, Nat.reduceLeDiff, Nat.reduceBEq, Int.reduceLE, Int.reduceLT, Int.reduceEq, Int.reduceNeg, g3_45, g8_45, g9_45, g10_45, k6_45, c9_l0, h58, h59, c61, h62, h64, o65, h66, o67]
            exact hn _ _ _ ⟨(by first | (simp only [D, DT, reduceIte, reduceCtorEq, Nat.reduceEqDiff, Nat.reduceAdd, Nat.reduceLT, Nat.reduceLeDiff, Nat.reduceBEq, Int.reduceLE, Int.reduceLT, Int.reduceEq, Int.reduceNeg, g3_45, g8_45, g9_45, g10_45, k6_45, c9_l0, h58, h59, c61, h62, h64, o65, h66, o67] <;> rfl) | rfl), (by first | (simp only [D, DT, reduceIte, reduceCtorEq, Nat.reduceEqDiff, Nat.reduceAdd, Nat.reduceLT, Nat.reduceLeDiff, Nat.reduceBEq, Int.reduceLE, Int.reduceLT, Int.reduceEq, Int.reduceNeg, g3_45, g8_45, g9_45, g10_45, k6_45, c9_l0, h58, h59, c61, h62, h64, o65, h66, o67] <;> rfl) | rfl), (by first | (simp only [D, DT, reduceIte, reduceCtorEq, Nat.reduceEqDiff, Nat.reduceAdd, Nat.reduceLT, Nat.reduceLeDiff, Nat.reduceBEq, Int.reduceLE, Int.reduceLT, Int.reduceEq, Int.reduceNeg, g3_45, g8_45, g9_45, g10_45, k6_45, c9_l0, h58, h59, c61, h62, h64, o65, h66, o67] <;> rfl) | rfl), (by first | (simp only [D, DT, reduceIte, reduceCtorEq, Nat.reduceEqDiff, Nat.reduceAdd, Nat.reduceLT, Nat.reduceLeDiff, Nat.reduceBEq, Int.reduceLE, Int.reduceLT, Int.reduceEq, Int.reduceNeg, g3_45, g8_45, g9_45, g10_45, k6_45, c9_l0, h58, h59, c61, h62, h64, o65, h66, o67] <;> rfl) | rfl), (by first | (simp only [D, DT, reduceIte, reduceCtorEq, Nat.reduceEqDiff, Nat.reduceAdd, Nat.reduceLT, Nat.reduceLeDiff, Nat.reduceBEq, Int.reduceLE, Int.reduceLT, Int.reduceEq, Int.reduceNeg, g3_45, g8_45, g9_45, g10_45, k6_45, c9_l0, h58, h59, c61, h62, h64, o65, h66, o67] <;> rfl) | rfl)⟩
          · simp only [D, DT, reduceIte, reduceCtorEq, Nat.reduceEqDiff, Nat.reduceAdd, Nat.reduceLT, Nat.reduceLeDiff, Nat.reduceBEq, Int.reduceLE, Int.reduceLT, Int.reduceEq, Int.reduceNeg, g3_45, g8_45, g9_45, g10_45, k6_45, c9_l0, h58, h59, c61, h62, h64, o65, h66]
            exact (hret _ _ (by first | (simp only [D, DT, reduceIte, reduceCtorEq, Nat.reduceEqDiff, Nat.reduceAdd, Nat.reduceLT, Nat.reduceLeDiff, Nat.reduceBEq, Int.reduceLE, Int.reduceLT, Int.reduceEq, Int.reduceNeg, g3_45, g8_45, g9_45, g10_45, k6_45, c9_l0, h58, h59, c61, h62, h64, o65, h66] <;> rfl) | rfl)).trans (hd _).symm
noncomputable def meta_Right.a0 : meta_Right.l0X → Option Bool
  | .x1 =>
    some true
  | .ret =>
    some false
noncomputable def meta_Right.k3 (a0 : api_Meta) (v32_68 : Bool) : Option Bool :=
  bif v32_68 then
    some false
  else
    (loopL (fun (s : Int × (List ((List UInt8) × Bool))) => meta_Right.l0B a0 s.1 s.2) (0, ([] : List ((List UInt8) × Bool)))).bind (meta_Right.a0)
set_option maxHeartbeats 4000000 in
theorem meta_Right.k3_ok (a0 : api_Meta) (v32_68 : Bool) (e : Env) (H : Heap) (g1_32 : e 1 = (.ptr [1] 1 0 0)) (g68_32 : e 68 = (.bool v32_68)) (k1_32 : H [1] = (1, some ⟨false, false, 11, [(.agg [(.str a0.Tag_Text), (.bool a0.Tag_Weak), (.int .i64 a0.Modified), (.int .i64 a0.Length), (.int .i64 a0.Have), (.int .i64 a0.Fresh), (.int .i64 a0.While), (.int .i64 a0.Error), (.sl (encL AV.str a0.Keys)), (.str a0.Tenant), (.bool a0.Keep)])]⟩)) :
    runL X [] (finS [Res.t 2]) (.c c9_k0 :: .blk 0 :: .c (C.seq (C.reg [⟨(some 2), none, (.mov (.c (.bool false)))⟩]) C.ret) :: []) e H = Option.map AV.bool (meta_Right.k3 a0 v32_68) := by
  simp only [D, DT, reduceIte, reduceCtorEq, Nat.reduceEqDiff, Nat.reduceAdd, Nat.reduceLT, Nat.reduceLeDiff, Nat.reduceBEq, Int.reduceLE, Int.reduceLT, Int.reduceEq, Int.reduceNeg, meta_Right.k3, g1_32, g68_32, k1_32, c9_k0]
  cases h33 : v32_68
  · simp only [D, DT, reduceIte, reduceCtorEq, Nat.reduceEqDiff, Nat.reduceAdd, Nat.reduceLT, Nat.reduceLeDiff, Nat.reduceBEq, Int.reduceLE, Int.reduceLT, Int.reduceEq, Int.reduceNeg, g1_32, g68_32, k1_32, c9_k0, h33]
    refine Eq.trans (meta_Right.l0_ok (fun x => Option.map AV.bool (meta_Right.a0 x)) a0 ((H [6]).1 + 1) ?_ ?_ 0 ([] : List ((List UInt8) × Bool)) _ _ (by first | (simp only [D, DT, reduceIte, reduceCtorEq, Nat.reduceEqDiff, Nat.reduceAdd, Nat.reduceLT, Nat.reduceLeDiff, Nat.reduceBEq, Int.reduceLE, Int.reduceLT, Int.reduceEq, Int.reduceNeg, g1_32, g68_32, k1_32, c9_k0, h33] <;> rfl) | rfl) (by first | (simp only [D, DT, reduceIte, reduceCtorEq, Nat.reduceEqDiff, Nat.reduceAdd, Nat.reduceLT, Nat.reduceLeDiff, Nat.reduceBEq, Int.reduceLE, Int.reduceLT, Int.reduceEq, Int.reduceNeg, g1_32, g68_32, k1_32, c9_k0, h33] <;> rfl) | rfl) (by first | (simp only [D, DT, reduceIte, reduceCtorEq, Nat.reduceEqDiff, Nat.reduceAdd, Nat.reduceLT, Nat.reduceLeDiff, Nat.reduceBEq, Int.reduceLE, Int.reduceLT, Int.reduceEq, Int.reduceNeg, g1_32, g68_32, k1_32, c9_k0, h33] <;> rfl) | rfl) (by first | (simp only [D, DT, reduceIte, reduceCtorEq, Nat.reduceEqDiff, Nat.reduceAdd, Nat.reduceLT, Nat.reduceLeDiff, Nat.reduceBEq, Int.reduceLE, Int.reduceLT, Int.reduceEq, Int.reduceNeg, g1_32, g68_32, k1_32, c9_k0, h33] <;> rfl) | rfl) (by first | (simp only [D, DT, reduceIte, reduceCtorEq, Nat.reduceEqDiff, Nat.reduceAdd, Nat.reduceLT, Nat.reduceLeDiff, Nat.reduceBEq, Int.reduceLE, Int.reduceLT, Int.reduceEq, Int.reduceNeg, g1_32, g68_32, k1_32, c9_k0, h33] <;> rfl) | rfl)) ?_
    · intro e_68 H_68
      simp only [D, DT, reduceIte, reduceCtorEq, Nat.reduceEqDiff, Nat.reduceAdd, Nat.reduceLT, Nat.reduceLeDiff, Nat.reduceBEq, Int.reduceLE, Int.reduceLT, Int.reduceEq, Int.reduceNeg, meta_Right.a0, g1_32, g68_32, k1_32, c9_k0, h33]
      try rfl
    · intro e_69 H_69 g2_57_69
      simp only [D, DT, reduceIte, reduceCtorEq, Nat.reduceEqDiff, Nat.reduceAdd, Nat.reduceLT, Nat.reduceLeDiff, Nat.reduceBEq, Int.reduceLE, Int.reduceLT, Int.reduceEq, Int.reduceNeg, meta_Right.a0, g1_32, g68_32, k1_32, c9_k0, h33, g2_57_69]
      try rfl
    exact mb _ _ _
  · simp only [D, DT, reduceIte, reduceCtorEq, Nat.reduceEqDiff, Nat.reduceAdd, Nat.reduceLT, Nat.reduceLeDiff, Nat.reduceBEq, Int.reduceLE, Int.reduceLT, Int.reduceEq, Int.reduceNeg, g1_32, g68_32, k1_32, c9_k0, h33]
    try rfl
noncomputable def meta_Right.k2 (a0 : api_Meta) (v27_55 : Bool) : Option Bool :=
  bif v27_55 then
    some false
  else
    bif (decide ((32 : Int) < (a0.Keys.length : Int))) then
      meta_Right.k3 a0 true
    else
      (meta_tenant.f a0.Tenant).bind fun x73 =>
      meta_Right.k3 a0 (!x73)
set_option maxHeartbeats 4000000 in
theorem meta_Right.k2_ok (a0 : api_Meta) (v27_55 : Bool) (e : Env) (H : Heap) (g1_27 : e 1 = (.ptr [1] 1 0 0)) (g55_27 : e 55 = (.bool v27_55)) (k1_27 : H [1] = (1, some ⟨false, false, 11, [(.agg [(.str a0.Tag_Text), (.bool a0.Tag_Weak), (.int .i64 a0.Modified), (.int .i64 a0.Length), (.int .i64 a0.Have), (.int .i64 a0.Fresh), (.int .i64 a0.While), (.int .i64 a0.Error), (.sl (encL AV.str a0.Keys)), (.str a0.Tenant), (.bool a0.Keep)])]⟩)) :
    runL X [] (finS [Res.t 2]) (.c c9_k1 :: .blk 0 :: .c (C.seq (C.reg [⟨(some 2), none, (.mov (.c (.bool false)))⟩]) C.ret) :: []) e H = Option.map AV.bool (meta_Right.k2 a0 v27_55) := by
  simp only [D, DT, reduceIte, reduceCtorEq, Nat.reduceEqDiff, Nat.reduceAdd, Nat.reduceLT, Nat.reduceLeDiff, Nat.reduceBEq, Int.reduceLE, Int.reduceLT, Int.reduceEq, Int.reduceNeg, meta_Right.k2, g1_27, g55_27, k1_27, c9_k1]
  cases h28 : v27_55
  · simp only [D, DT, reduceIte, reduceCtorEq, Nat.reduceEqDiff, Nat.reduceAdd, Nat.reduceLT, Nat.reduceLeDiff, Nat.reduceBEq, Int.reduceLE, Int.reduceLT, Int.reduceEq, Int.reduceNeg, g1_27, g55_27, k1_27, c9_k1, h28]
    cases h70 : (decide ((32 : Int) < (a0.Keys.length : Int)))
    · simp only [D, DT, reduceIte, reduceCtorEq, Nat.reduceEqDiff, Nat.reduceAdd, Nat.reduceLT, Nat.reduceLeDiff, Nat.reduceBEq, Int.reduceLE, Int.reduceLT, Int.reduceEq, Int.reduceNeg, g1_27, g55_27, k1_27, c9_k1, h28, h70]
      have c71 : ansL X 22 [(.str a0.Tenant)] = Option.map AV.bool (meta_tenant.f a0.Tenant) := meta_tenant.ok a0.Tenant
      rcases h72 : meta_tenant.f a0.Tenant with _ | x73
      · simp only [D, DT, reduceIte, reduceCtorEq, Nat.reduceEqDiff, Nat.reduceAdd, Nat.reduceLT, Nat.reduceLeDiff, Nat.reduceBEq, Int.reduceLE, Int.reduceLT, Int.reduceEq, Int.reduceNeg, g1_27, g55_27, k1_27, c9_k1, h28, h70, c71, h72]
      · simp only [D, DT, reduceIte, reduceCtorEq, Nat.reduceEqDiff, Nat.reduceAdd, Nat.reduceLT, Nat.reduceLeDiff, Nat.reduceBEq, Int.reduceLE, Int.reduceLT, Int.reduceEq, Int.reduceNeg, g1_27, g55_27, k1_27, c9_k1, h28, h70, c71, h72]
        exact meta_Right.k3_ok a0 (!x73) _ _ (by first | (simp only [D, DT, reduceIte, reduceCtorEq, Nat.reduceEqDiff, Nat.reduceAdd, Nat.reduceLT, Nat.reduceLeDiff, Nat.reduceBEq, Int.reduceLE, Int.reduceLT, Int.reduceEq, Int.reduceNeg, g1_27, g55_27, k1_27, c9_k1, h28, h70, c71, h72] <;> rfl) | rfl) (by first | (simp only [D, DT, reduceIte, reduceCtorEq, Nat.reduceEqDiff, Nat.reduceAdd, Nat.reduceLT, Nat.reduceLeDiff, Nat.reduceBEq, Int.reduceLE, Int.reduceLT, Int.reduceEq, Int.reduceNeg, g1_27, g55_27, k1_27, c9_k1, h28, h70, c71, h72] <;> rfl) | rfl) (by first | (simp only [D, DT, reduceIte, reduceCtorEq, Nat.reduceEqDiff, Nat.reduceAdd, Nat.reduceLT, Nat.reduceLeDiff, Nat.reduceBEq, Int.reduceLE, Int.reduceLT, Int.reduceEq, Int.reduceNeg, g1_27, g55_27, k1_27, c9_k1, h28, h70, c71, h72] <;> rfl) | rfl)
    · simp only [D, DT, reduceIte, reduceCtorEq, Nat.reduceEqDiff, Nat.reduceAdd, Nat.reduceLT, Nat.reduceLeDiff, Nat.reduceBEq, Int.reduceLE, Int.reduceLT, Int.reduceEq, Int.reduceNeg, g1_27, g55_27, k1_27, c9_k1, h28, h70]
      exact meta_Right.k3_ok a0 true _ _ (by first | (simp only [D, DT, reduceIte, reduceCtorEq, Nat.reduceEqDiff, Nat.reduceAdd, Nat.reduceLT, Nat.reduceLeDiff, Nat.reduceBEq, Int.reduceLE, Int.reduceLT, Int.reduceEq, Int.reduceNeg, g1_27, g55_27, k1_27, c9_k1, h28, h70] <;> rfl) | rfl) (by first | (simp only [D, DT, reduceIte, reduceCtorEq, Nat.reduceEqDiff, Nat.reduceAdd, Nat.reduceLT, Nat.reduceLeDiff, Nat.reduceBEq, Int.reduceLE, Int.reduceLT, Int.reduceEq, Int.reduceNeg, g1_27, g55_27, k1_27, c9_k1, h28, h70] <;> rfl) | rfl) (by first | (simp only [D, DT, reduceIte, reduceCtorEq, Nat.reduceEqDiff, Nat.reduceAdd, Nat.reduceLT, Nat.reduceLeDiff, Nat.reduceBEq, Int.reduceLE, Int.reduceLT, Int.reduceEq, Int.reduceNeg, g1_27, g55_27, k1_27, c9_k1, h28, h70] <;> rfl) | rfl)
  · simp only [D, DT, reduceIte, reduceCtorEq, Nat.reduceEqDiff, Nat.reduceAdd, Nat.reduceLT, Nat.reduceLeDiff, Nat.reduceBEq, Int.reduceLE, Int.reduceLT, Int.reduceEq, Int.reduceNeg, g1_27, g55_27, k1_27, c9_k1, h28]
    try rfl
noncomputable def meta_Right.k1 (a0 : api_Meta) (v15_36 : Bool) : Option Bool :=
  bif v15_36 then
    some false
  else
    (meta_within.f a0.Fresh 0).bind fun x19 =>
    bif x19 then
      (meta_within.f a0.While 0).bind fun x77 =>
      bif x77 then
        (meta_within.f a0.Error 0).bind fun x81 =>
        meta_Right.k2 a0 (!x81)
      else
        meta_Right.k2 a0 true
    else
      meta_Right.k2 a0 true
set_option maxHeartbeats 4000000 in
theorem meta_Right.k1_ok (a0 : api_Meta) (v15_36 : Bool) (e : Env) (H : Heap) (g1_15 : e 1 = (.ptr [1] 1 0 0)) (g36_15 : e 36 = (.bool v15_36)) (k1_15 : H [1] = (1, some ⟨false, false, 11, [(.agg [(.str a0.Tag_Text), (.bool a0.Tag_Weak), (.int .i64 a0.Modified), (.int .i64 a0.Length), (.int .i64 a0.Have), (.int .i64 a0.Fresh), (.int .i64 a0.While), (.int .i64 a0.Error), (.sl (encL AV.str a0.Keys)), (.str a0.Tenant), (.bool a0.Keep)])]⟩)) :
    runL X [] (finS [Res.t 2]) (.c c9_k2 :: .blk 0 :: .c (C.seq (C.reg [⟨(some 2), none, (.mov (.c (.bool false)))⟩]) C.ret) :: []) e H = Option.map AV.bool (meta_Right.k1 a0 v15_36) := by
  simp only [D, DT, reduceIte, reduceCtorEq, Nat.reduceEqDiff, Nat.reduceAdd, Nat.reduceLT, Nat.reduceLeDiff, Nat.reduceBEq, Int.reduceLE, Int.reduceLT, Int.reduceEq, Int.reduceNeg, meta_Right.k1, g1_15, g36_15, k1_15, c9_k2]
  cases h16 : v15_36
  · simp only [D, DT, reduceIte, reduceCtorEq, Nat.reduceEqDiff, Nat.reduceAdd, Nat.reduceLT, Nat.reduceLeDiff, Nat.reduceBEq, Int.reduceLE, Int.reduceLT, Int.reduceEq, Int.reduceNeg, g1_15, g36_15, k1_15, c9_k2, h16]
    have c17 : ansL X 21 [(.int .i64 a0.Fresh), (.int .i64 0)] = Option.map AV.bool (meta_within.f a0.Fresh 0) := meta_within.ok a0.Fresh 0
    rcases h18 : meta_within.f a0.Fresh 0 with _ | x19
    · simp only [D, DT, reduceIte, reduceCtorEq, Nat.reduceEqDiff, Nat.reduceAdd, Nat.reduceLT, Nat.reduceLeDiff, Nat.reduceBEq, Int.reduceLE, Int.reduceLT, Int.reduceEq, Int.reduceNeg, g1_15, g36_15, k1_15, c9_k2, h16, c17, h18]
    · simp only [D, DT, reduceIte, reduceCtorEq, Nat.reduceEqDiff, Nat.reduceAdd, Nat.reduceLT, Nat.reduceLeDiff, Nat.reduceBEq, Int.reduceLE, Int.reduceLT, Int.reduceEq, Int.reduceNeg, g1_15, g36_15, k1_15, c9_k2, h16, c17, h18]
      cases h74 : x19
      · simp only [D, DT, reduceIte, reduceCtorEq, Nat.reduceEqDiff, Nat.reduceAdd, Nat.reduceLT, Nat.reduceLeDiff, Nat.reduceBEq, Int.reduceLE, Int.reduceLT, Int.reduceEq, Int.reduceNeg, g1_15, g36_15, k1_15, c9_k2, h16, c17, h18, h74]
        exact meta_Right.k2_ok a0 true _ _ (by first | (simp only [D, DT, reduceIte, reduceCtorEq, Nat.reduceEqDiff, Nat.reduceAdd, Nat.reduceLT, Nat.reduceLeDiff, Nat.reduceBEq, Int.reduceLE, Int.reduceLT, Int.reduceEq, Int.reduceNeg, g1_15, g36_15, k1_15, c9_k2, h16, c17, h18, h74] <;> rfl) | rfl) (by first | (simp only [D, DT, reduceIte, reduceCtorEq, Nat.reduceEqDiff, Nat.reduceAdd, Nat.reduceLT, Nat.reduceLeDiff, Nat.reduceBEq, Int.reduceLE, Int.reduceLT, Int.reduceEq, Int.reduceNeg, g1_15, g36_15, k1_15, c9_k2, h16, c17, h18, h74] <;> rfl) | rfl) (by first | (simp only [D, DT, reduceIte, reduceCtorEq, Nat.reduceEqDiff, Nat.reduceAdd, Nat.reduceLT, Nat.reduceLeDiff, Nat.reduceBEq, Int.reduceLE, Int.reduceLT, Int.reduceEq, Int.reduceNeg, g1_15, g36_15, k1_15, c9_k2, h16, c17, h18, h74] <;> rfl) | rfl)
      · simp only [D, DT, reduceIte, reduceCtorEq, Nat.reduceEqDiff, Nat.reduceAdd, Nat.reduceLT, Nat.reduceLeDiff, Nat.reduceBEq, Int.reduceLE, Int.reduceLT, Int.reduceEq, Int.reduceNeg, g1_15, g36_15, k1_15, c9_k2, h16, c17, h18, h74]
        have c75 : ansL X 21 [(.int .i64 a0.While), (.int .i64 0)] = Option.map AV.bool (meta_within.f a0.While 0) := meta_within.ok a0.While 0
        rcases h76 : meta_within.f a0.While 0 with _ | x77
        · simp only [D, DT, reduceIte, reduceCtorEq, Nat.reduceEqDiff, Nat.reduceAdd, Nat.reduceLT, Nat.reduceLeDiff, Nat.reduceBEq, Int.reduceLE, Int.reduceLT, Int.reduceEq, Int.reduceNeg, g1_15, g36_15, k1_15, c9_k2, h16, c17, h18, h74, c75, h76]
        · simp only [D, DT, reduceIte, reduceCtorEq, Nat.reduceEqDiff, Nat.reduceAdd, Nat.reduceLT, Nat.reduceLeDiff, Nat.reduceBEq, Int.reduceLE, Int.reduceLT, Int.reduceEq, Int.reduceNeg, g1_15, g36_15, k1_15, c9_k2, h16, c17, h18, h74, c75, h76]
          cases h78 : x77
          · simp only [D, DT, reduceIte, reduceCtorEq, Nat.reduceEqDiff, Nat.reduceAdd, Nat.reduceLT, Nat.reduceLeDiff, Nat.reduceBEq, Int.reduceLE, Int.reduceLT, Int.reduceEq, Int.reduceNeg, g1_15, g36_15, k1_15, c9_k2, h16, c17, h18, h74, c75, h76, h78]
            exact meta_Right.k2_ok a0 true _ _ (by first | (simp only [D, DT, reduceIte, reduceCtorEq, Nat.reduceEqDiff, Nat.reduceAdd, Nat.reduceLT, Nat.reduceLeDiff, Nat.reduceBEq, Int.reduceLE, Int.reduceLT, Int.reduceEq, Int.reduceNeg, g1_15, g36_15, k1_15, c9_k2, h16, c17, h18, h74, c75, h76, h78] <;> rfl) | rfl) (by first | (simp only [D, DT, reduceIte, reduceCtorEq, Nat.reduceEqDiff, Nat.reduceAdd, Nat.reduceLT, Nat.reduceLeDiff, Nat.reduceBEq, Int.reduceLE, Int.reduceLT, Int.reduceEq, Int.reduceNeg, g1_15, g36_15, k1_15, c9_k2, h16, c17, h18, h74, c75, h76, h78] <;> rfl) | rfl) (by first | (simp only [D, DT, reduceIte, reduceCtorEq, Nat.reduceEqDiff, Nat.reduceAdd, Nat.reduceLT, Nat.reduceLeDiff, Nat.reduceBEq, Int.reduceLE, Int.reduceLT, Int.reduceEq, Int.reduceNeg, g1_15, g36_15, k1_15, c9_k2, h16, c17, h18, h74, c75, h76, h78] <;> rfl) | rfl)
          · simp only [D, DT, reduceIte, reduceCtorEq, Nat.reduceEqDiff, Nat.reduceAdd, Nat.reduceLT, Nat.reduceLeDiff, Nat.reduceBEq, Int.reduceLE, Int.reduceLT, Int.reduceEq, Int.reduceNeg, g1_15, g36_15, k1_15, c9_k2, h16, c17, h18, h74, c75, h76, h78]
            have c79 : ansL X 21 [(.int .i64 a0.Error), (.int .i64 0)] = Option.map AV.bool (meta_within.f a0.Error 0) := meta_within.ok a0.Error 0
            rcases h80 : meta_within.f a0.Error 0 with _ | x81
            · simp only [D, DT, reduceIte, reduceCtorEq, Nat.reduceEqDiff, Nat.reduceAdd, Nat.reduceLT, Nat.reduceLeDiff, Nat.reduceBEq, Int.reduceLE, Int.reduceLT, Int.reduceEq, Int.reduceNeg, g1_15, g36_15, k1_15, c9_k2, h16, c17, h18, h74, c75, h76, h78, c79, h80]
            · simp only [D, DT, reduceIte, reduceCtorEq, Nat.reduceEqDiff, Nat.reduceAdd, Nat.reduceLT, Nat.reduceLeDiff, Nat.reduceBEq, Int.reduceLE, Int.reduceLT, Int.reduceEq, Int.reduceNeg, g1_15, g36_15, k1_15, c9_k2, h16, c17, h18, h74, c75, h76, h78, c79, h80]
              exact meta_Right.k2_ok a0 (!x81) _ _ (by first | (simp only [D, DT, reduceIte, reduceCtorEq, Nat.reduceEqDiff, Nat.reduceAdd, Nat.reduceLT, Nat.reduceLeDiff, Nat.reduceBEq, Int.reduceLE, Int.reduceLT, Int.reduceEq, Int.reduceNeg, g1_15, g36_15, k1_15, c9_k2, h16, c17, h18, h74, c75, h76, h78, c79, h80] <;> rfl) | rfl) (by first | (simp only [D, DT, reduceIte, reduceCtorEq, Nat.reduceEqDiff, Nat.reduceAdd, Nat.reduceLT, Nat.reduceLeDiff, Nat.reduceBEq, Int.reduceLE, Int.reduceLT, Int.reduceEq, Int.reduceNeg, g1_15, g36_15, k1_15, c9_k2, h16, c17, h18, h74, c75, h76, h78, c79, h80] <;> rfl) | rfl) (by first | (simp only [D, DT, reduceIte, reduceCtorEq, Nat.reduceEqDiff, Nat.reduceAdd, Nat.reduceLT, Nat.reduceLeDiff, Nat.reduceBEq, Int.reduceLE, Int.reduceLT, Int.reduceEq, Int.reduceNeg, g1_15, g36_15, k1_15, c9_k2, h16, c17, h18, h74, c75, h76, h78, c79, h80] <;> rfl) | rfl)
  · simp only [D, DT, reduceIte, reduceCtorEq, Nat.reduceEqDiff, Nat.reduceAdd, Nat.reduceLT, Nat.reduceLeDiff, Nat.reduceBEq, Int.reduceLE, Int.reduceLT, Int.reduceEq, Int.reduceNeg, g1_15, g36_15, k1_15, c9_k2, h16]
    try rfl
noncomputable def meta_Right.k0 (a0 : api_Meta) (v5_25 : Bool) : Option Bool :=
  bif v5_25 then
    some false
  else
    (meta_within.f a0.Length (-1)).bind fun x9 =>
    bif x9 then
      (meta_within.f a0.Have 0).bind fun x85 =>
      bif x85 then
        bif (decide ((0 : Int) ≤ a0.Length)) then
          meta_Right.k1 a0 (!decide (a0.Have = a0.Length))
        else
          meta_Right.k1 a0 false
      else
        meta_Right.k1 a0 true
    else
      meta_Right.k1 a0 true
set_option maxHeartbeats 4000000 in
theorem meta_Right.k0_ok (a0 : api_Meta) (v5_25 : Bool) (e : Env) (H : Heap) (g1_5 : e 1 = (.ptr [1] 1 0 0)) (g25_5 : e 25 = (.bool v5_25)) (k1_5 : H [1] = (1, some ⟨false, false, 11, [(.agg [(.str a0.Tag_Text), (.bool a0.Tag_Weak), (.int .i64 a0.Modified), (.int .i64 a0.Length), (.int .i64 a0.Have), (.int .i64 a0.Fresh), (.int .i64 a0.While), (.int .i64 a0.Error), (.sl (encL AV.str a0.Keys)), (.str a0.Tenant), (.bool a0.Keep)])]⟩)) :
    runL X [] (finS [Res.t 2]) (.c c9_k3 :: .blk 0 :: .c (C.seq (C.reg [⟨(some 2), none, (.mov (.c (.bool false)))⟩]) C.ret) :: []) e H = Option.map AV.bool (meta_Right.k0 a0 v5_25) := by
  simp only [D, DT, reduceIte, reduceCtorEq, Nat.reduceEqDiff, Nat.reduceAdd, Nat.reduceLT, Nat.reduceLeDiff, Nat.reduceBEq, Int.reduceLE, Int.reduceLT, Int.reduceEq, Int.reduceNeg, meta_Right.k0, g1_5, g25_5, k1_5, c9_k3]
  cases h6 : v5_25
  · simp only [D, DT, reduceIte, reduceCtorEq, Nat.reduceEqDiff, Nat.reduceAdd, Nat.reduceLT, Nat.reduceLeDiff, Nat.reduceBEq, Int.reduceLE, Int.reduceLT, Int.reduceEq, Int.reduceNeg, g1_5, g25_5, k1_5, c9_k3, h6]
    have c7 : ansL X 21 [(.int .i64 a0.Length), (.int .i64 (-1))] = Option.map AV.bool (meta_within.f a0.Length (-1)) := meta_within.ok a0.Length (-1)
    rcases h8 : meta_within.f a0.Length (-1) with _ | x9
    · simp only [D, DT, reduceIte, reduceCtorEq, Nat.reduceEqDiff, Nat.reduceAdd, Nat.reduceLT, Nat.reduceLeDiff, Nat.reduceBEq, Int.reduceLE, Int.reduceLT, Int.reduceEq, Int.reduceNeg, g1_5, g25_5, k1_5, c9_k3, h6, c7, h8]
    · simp only [D, DT, reduceIte, reduceCtorEq, Nat.reduceEqDiff, Nat.reduceAdd, Nat.reduceLT, Nat.reduceLeDiff, Nat.reduceBEq, Int.reduceLE, Int.reduceLT, Int.reduceEq, Int.reduceNeg, g1_5, g25_5, k1_5, c9_k3, h6, c7, h8]
      cases h82 : x9
      · simp only [D, DT, reduceIte, reduceCtorEq, Nat.reduceEqDiff, Nat.reduceAdd, Nat.reduceLT, Nat.reduceLeDiff, Nat.reduceBEq, Int.reduceLE, Int.reduceLT, Int.reduceEq, Int.reduceNeg, g1_5, g25_5, k1_5, c9_k3, h6, c7, h8, h82]
        exact meta_Right.k1_ok a0 true _ _ (by first | (simp only [D, DT, reduceIte, reduceCtorEq, Nat.reduceEqDiff, Nat.reduceAdd, Nat.reduceLT, Nat.reduceLeDiff, Nat.reduceBEq, Int.reduceLE, Int.reduceLT, Int.reduceEq, Int.reduceNeg, g1_5, g25_5, k1_5, c9_k3, h6, c7, h8, h82] <;> rfl) | rfl) (by first | (simp only [D, DT, reduceIte, reduceCtorEq, Nat.reduceEqDiff, Nat.reduceAdd, Nat.reduceLT, Nat.reduceLeDiff, Nat.reduceBEq, Int.reduceLE, Int.reduceLT, Int.reduceEq, Int.reduceNeg, g1_5, g25_5, k1_5, c9_k3, h6, c7, h8, h82] <;> rfl) | rfl) (by first | (simp only [D, DT, reduceIte, reduceCtorEq, Nat.reduceEqDiff, Nat.reduceAdd, Nat.reduceLT, Nat.reduceLeDiff, Nat.reduceBEq, Int.reduceLE, Int.reduceLT, Int.reduceEq, Int.reduceNeg, g1_5, g25_5, k1_5, c9_k3, h6, c7, h8, h82] <;> rfl) | rfl)
      · simp only [D, DT, reduceIte, reduceCtorEq, Nat.reduceEqDiff, Nat.reduceAdd, Nat.reduceLT, Nat.reduceLeDiff, Nat.reduceBEq, Int.reduceLE, Int.reduceLT, Int.reduceEq, Int.reduceNeg, g1_5, g25_5, k1_5, c9_k3, h6, c7, h8, h82]
        have c83 : ansL X 21 [(.int .i64 a0.Have), (.int .i64 0)] = Option.map AV.bool (meta_within.f a0.Have 0) := meta_within.ok a0.Have 0
        rcases h84 : meta_within.f a0.Have 0 with _ | x85
        · simp only [D, DT, reduceIte, reduceCtorEq, Nat.reduceEqDiff, Nat.reduceAdd, Nat.reduceLT, Nat.reduceLeDiff, Nat.reduceBEq, Int.reduceLE, Int.reduceLT, Int.reduceEq, Int.reduceNeg, g1_5, g25_5, k1_5, c9_k3, h6, c7, h8, h82, c83, h84]
        · simp only [D, DT, reduceIte, reduceCtorEq, Nat.reduceEqDiff, Nat.reduceAdd, Nat.reduceLT, Nat.reduceLeDiff, Nat.reduceBEq, Int.reduceLE, Int.reduceLT, Int.reduceEq, Int.reduceNeg, g1_5, g25_5, k1_5, c9_k3, h6, c7, h8, h82, c83, h84]
          cases h86 : x85
          · simp only [D, DT, reduceIte, reduceCtorEq, Nat.reduceEqDiff, Nat.reduceAdd, Nat.reduceLT, Nat.reduceLeDiff, Nat.reduceBEq, Int.reduceLE, Int.reduceLT, Int.reduceEq, Int.reduceNeg, g1_5, g25_5, k1_5, c9_k3, h6, c7, h8, h82, c83, h84, h86]
            exact meta_Right.k1_ok a0 true _ _ (by first | (simp only [D, DT, reduceIte, reduceCtorEq, Nat.reduceEqDiff, Nat.reduceAdd, Nat.reduceLT, Nat.reduceLeDiff, Nat.reduceBEq, Int.reduceLE, Int.reduceLT, Int.reduceEq, Int.reduceNeg, g1_5, g25_5, k1_5, c9_k3, h6, c7, h8, h82, c83, h84, h86] <;> rfl) | rfl) (by first | (simp only [D, DT, reduceIte, reduceCtorEq, Nat.reduceEqDiff, Nat.reduceAdd, Nat.reduceLT, Nat.reduceLeDiff, Nat.reduceBEq, Int.reduceLE, Int.reduceLT, Int.reduceEq, Int.reduceNeg, g1_5, g25_5, k1_5, c9_k3, h6, c7, h8, h82, c83, h84, h86] <;> rfl) | rfl) (by first | (simp only [D, DT, reduceIte, reduceCtorEq, Nat.reduceEqDiff, Nat.reduceAdd, Nat.reduceLT, Nat.reduceLeDiff, Nat.reduceBEq, Int.reduceLE, Int.reduceLT, Int.reduceEq, Int.reduceNeg, g1_5, g25_5, k1_5, c9_k3, h6, c7, h8, h82, c83, h84, h86] <;> rfl) | rfl)
          · simp only [D, DT, reduceIte, reduceCtorEq, Nat.reduceEqDiff, Nat.reduceAdd, Nat.reduceLT, Nat.reduceLeDiff, Nat.reduceBEq, Int.reduceLE, Int.reduceLT, Int.reduceEq, Int.reduceNeg, g1_5, g25_5, k1_5, c9_k3, h6, c7, h8, h82, c83, h84, h86]
            cases h87 : (decide ((0 : Int) ≤ a0.Length))
            · simp only [D, DT, reduceIte, reduceCtorEq, Nat.reduceEqDiff, Nat.reduceAdd, Nat.reduceLT, Nat.reduceLeDiff, Nat.reduceBEq, Int.reduceLE, Int.reduceLT, Int.reduceEq, Int.reduceNeg, g1_5, g25_5, k1_5, c9_k3, h6, c7, h8, h82, c83, h84, h86, h87]
              exact meta_Right.k1_ok a0 false _ _ (by first | (simp only [D, DT, reduceIte, reduceCtorEq, Nat.reduceEqDiff, Nat.reduceAdd, Nat.reduceLT, Nat.reduceLeDiff, Nat.reduceBEq, Int.reduceLE, Int.reduceLT, Int.reduceEq, Int.reduceNeg, g1_5, g25_5, k1_5, c9_k3, h6, c7, h8, h82, c83, h84, h86, h87] <;> rfl) | rfl) (by first | (simp only [D, DT, reduceIte, reduceCtorEq, Nat.reduceEqDiff, Nat.reduceAdd, Nat.reduceLT, Nat.reduceLeDiff, Nat.reduceBEq, Int.reduceLE, Int.reduceLT, Int.reduceEq, Int.reduceNeg, g1_5, g25_5, k1_5, c9_k3, h6, c7, h8, h82, c83, h84, h86, h87] <;> rfl) | rfl) (by first | (simp only [D, DT, reduceIte, reduceCtorEq, Nat.reduceEqDiff, Nat.reduceAdd, Nat.reduceLT, Nat.reduceLeDiff, Nat.reduceBEq, Int.reduceLE, Int.reduceLT, Int.reduceEq, Int.reduceNeg, g1_5, g25_5, k1_5, c9_k3, h6, c7, h8, h82, c83, h84, h86, h87] <;> rfl) | rfl)
            · simp only [D, DT, reduceIte, reduceCtorEq, Nat.reduceEqDiff, Nat.reduceAdd, Nat.reduceLT, Nat.reduceLeDiff, Nat.reduceBEq, Int.reduceLE, Int.reduceLT, Int.reduceEq, Int.reduceNeg, g1_5, g25_5, k1_5, c9_k3, h6, c7, h8, h82, c83, h84, h86, h87]
              exact meta_Right.k1_ok a0 (!decide (a0.Have = a0.Length)) _ _ (by first | (simp only [D, DT, reduceIte, reduceCtorEq, Nat.reduceEqDiff, Nat.reduceAdd, Nat.reduceLT, Nat.reduceLeDiff, Nat.reduceBEq, Int.reduceLE, Int.reduceLT, Int.reduceEq, Int.reduceNeg, g1_5, g25_5, k1_5, c9_k3, h6, c7, h8, h82, c83, h84, h86, h87] <;> rfl) | rfl) (by first | (simp only [D, DT, reduceIte, reduceCtorEq, Nat.reduceEqDiff, Nat.reduceAdd, Nat.reduceLT, Nat.reduceLeDiff, Nat.reduceBEq, Int.reduceLE, Int.reduceLT, Int.reduceEq, Int.reduceNeg, g1_5, g25_5, k1_5, c9_k3, h6, c7, h8, h82, c83, h84, h86, h87] <;> rfl) | rfl) (by first | (simp only [D, DT, reduceIte, reduceCtorEq, Nat.reduceEqDiff, Nat.reduceAdd, Nat.reduceLT, Nat.reduceLeDiff, Nat.reduceBEq, Int.reduceLE, Int.reduceLT, Int.reduceEq, Int.reduceNeg, g1_5, g25_5, k1_5, c9_k3, h6, c7, h8, h82, c83, h84, h86, h87] <;> rfl) | rfl)
  · simp only [D, DT, reduceIte, reduceCtorEq, Nat.reduceEqDiff, Nat.reduceAdd, Nat.reduceLT, Nat.reduceLeDiff, Nat.reduceBEq, Int.reduceLE, Int.reduceLT, Int.reduceEq, Int.reduceNeg, g1_5, g25_5, k1_5, c9_k3, h6]
    try rfl
noncomputable def meta_Right.f (a0 : api_Meta) : Option Bool :=
  (meta_tagged.f (api_Tag.mk a0.Tag_Text a0.Tag_Weak)).bind fun x3 =>
  bif x3 then
    bif (decide (a0.Modified < (-1))) then
      meta_Right.k0 a0 true
    else
      meta_Right.k0 a0 (decide ((253402300799 : Int) < a0.Modified))
  else
    meta_Right.k0 a0 true
set_option maxHeartbeats 4000000 in
theorem meta_Right.ok (a0 : api_Meta) : ansL X 9 [(.agg [(.str a0.Tag_Text), (.bool a0.Tag_Weak), (.int .i64 a0.Modified), (.int .i64 a0.Length), (.int .i64 a0.Have), (.int .i64 a0.Fresh), (.int .i64 a0.While), (.int .i64 a0.Error), (.sl (encL AV.str a0.Keys)), (.str a0.Tenant), (.bool a0.Keep)])] = Option.map AV.bool (meta_Right.f a0) := by
  rw [ansL_run (fd := c9) rfl rfl]
  simp only [D, DT, reduceIte, reduceCtorEq, Nat.reduceEqDiff, Nat.reduceAdd, Nat.reduceLT, Nat.reduceLeDiff, Nat.reduceBEq, Int.reduceLE, Int.reduceLT, Int.reduceEq, Int.reduceNeg, c9, meta_Right.f]
  have c1 : ansL X 20 [(.agg [(.str a0.Tag_Text), (.bool a0.Tag_Weak)])] = Option.map AV.bool (meta_tagged.f (api_Tag.mk a0.Tag_Text a0.Tag_Weak)) := meta_tagged.ok (api_Tag.mk a0.Tag_Text a0.Tag_Weak)
  rcases h2 : meta_tagged.f (api_Tag.mk a0.Tag_Text a0.Tag_Weak) with _ | x3
  · simp only [D, DT, reduceIte, reduceCtorEq, Nat.reduceEqDiff, Nat.reduceAdd, Nat.reduceLT, Nat.reduceLeDiff, Nat.reduceBEq, Int.reduceLE, Int.reduceLT, Int.reduceEq, Int.reduceNeg, c1, h2]
  · simp only [D, DT, reduceIte, reduceCtorEq, Nat.reduceEqDiff, Nat.reduceAdd, Nat.reduceLT, Nat.reduceLeDiff, Nat.reduceBEq, Int.reduceLE, Int.reduceLT, Int.reduceEq, Int.reduceNeg, c1, h2]
    cases h88 : x3
    · simp only [D, DT, reduceIte, reduceCtorEq, Nat.reduceEqDiff, Nat.reduceAdd, Nat.reduceLT, Nat.reduceLeDiff, Nat.reduceBEq, Int.reduceLE, Int.reduceLT, Int.reduceEq, Int.reduceNeg, c1, h2, h88]
      exact meta_Right.k0_ok a0 true _ _ (by first | (simp only [D, DT, reduceIte, reduceCtorEq, Nat.reduceEqDiff, Nat.reduceAdd, Nat.reduceLT, Nat.reduceLeDiff, Nat.reduceBEq, Int.reduceLE, Int.reduceLT, Int.reduceEq, Int.reduceNeg, c1, h2, h88] <;> rfl) | rfl) (by first | (simp only [D, DT, reduceIte, reduceCtorEq, Nat.reduceEqDiff, Nat.reduceAdd, Nat.reduceLT, Nat.reduceLeDiff, Nat.reduceBEq, Int.reduceLE, Int.reduceLT, Int.reduceEq, Int.reduceNeg, c1, h2, h88] <;> rfl) | rfl) (by first | (simp only [D, DT, reduceIte, reduceCtorEq, Nat.reduceEqDiff, Nat.reduceAdd, Nat.reduceLT, Nat.reduceLeDiff, Nat.reduceBEq, Int.reduceLE, Int.reduceLT, Int.reduceEq, Int.reduceNeg, c1, h2, h88] <;> rfl) | rfl)
    · simp only [D, DT, reduceIte, reduceCtorEq, Nat.reduceEqDiff, Nat.reduceAdd, Nat.reduceLT, Nat.reduceLeDiff, Nat.reduceBEq, Int.reduceLE, Int.reduceLT, Int.reduceEq, Int.reduceNeg, c1, h2, h88]
      cases h89 : (decide (a0.Modified < (-1)))
      · simp only [D, DT, reduceIte, reduceCtorEq, Nat.reduceEqDiff, Nat.reduceAdd, Nat.reduceLT, Nat.reduceLeDiff, Nat.reduceBEq, Int.reduceLE, Int.reduceLT, Int.reduceEq, Int.reduceNeg, c1, h2, h88, h89]
        exact meta_Right.k0_ok a0 (decide ((253402300799 : Int) < a0.Modified)) _ _ (by first | (simp only [D, DT, reduceIte, reduceCtorEq, Nat.reduceEqDiff, Nat.reduceAdd, Nat.reduceLT, Nat.reduceLeDiff, Nat.reduceBEq, Int.reduceLE, Int.reduceLT, Int.reduceEq, Int.reduceNeg, c1, h2, h88, h89] <;> rfl) | rfl) (by first | (simp only [D, DT, reduceIte, reduceCtorEq, Nat.reduceEqDiff, Nat.reduceAdd, Nat.reduceLT, Nat.reduceLeDiff, Nat.reduceBEq, Int.reduceLE, Int.reduceLT, Int.reduceEq, Int.reduceNeg, c1, h2, h88, h89] <;> rfl) | rfl) (by first | (simp only [D, DT, reduceIte, reduceCtorEq, Nat.reduceEqDiff, Nat.reduceAdd, Nat.reduceLT, Nat.reduceLeDiff, Nat.reduceBEq, Int.reduceLE, Int.reduceLT, Int.reduceEq, Int.reduceNeg, c1, h2, h88, h89] <;> rfl) | rfl)
      · simp only [D, DT, reduceIte, reduceCtorEq, Nat.reduceEqDiff, Nat.reduceAdd, Nat.reduceLT, Nat.reduceLeDiff, Nat.reduceBEq, Int.reduceLE, Int.reduceLT, Int.reduceEq, Int.reduceNeg, c1, h2, h88, h89]
        exact meta_Right.k0_ok a0 true _ _ (by first | (simp only [D, DT, reduceIte, reduceCtorEq, Nat.reduceEqDiff, Nat.reduceAdd, Nat.reduceLT, Nat.reduceLeDiff, Nat.reduceBEq, Int.reduceLE, Int.reduceLT, Int.reduceEq, Int.reduceNeg, c1, h2, h88, h89] <;> rfl) | rfl) (by first | (simp only [D, DT, reduceIte, reduceCtorEq, Nat.reduceEqDiff, Nat.reduceAdd, Nat.reduceLT, Nat.reduceLeDiff, Nat.reduceBEq, Int.reduceLE, Int.reduceLT, Int.reduceEq, Int.reduceNeg, c1, h2, h88, h89] <;> rfl) | rfl) (by first | (simp only [D, DT, reduceIte, reduceCtorEq, Nat.reduceEqDiff, Nat.reduceAdd, Nat.reduceLT, Nat.reduceLeDiff, Nat.reduceBEq, Int.reduceLE, Int.reduceLT, Int.reduceEq, Int.reduceNeg, c1, h2, h88, h89] <;> rfl) | rfl)
inductive mandolineref14_Right.l0X where
  | x0
  | ret
noncomputable def mandolineref14_Right.l0B (a0 : api_Meta) (v14_3 : Int) : Option (Step (Int) mandolineref14_Right.l0X) :=
  bif (decide (v14_3 < (a0.Tag_Text.length : Int))) then
    (idx a0.Tag_Text v14_3).bind fun x23 =>
    bif (decide ((126 : Int) < (x23.toNat : Int))) then
      some (.done (.ret))
    else
      some (.next (IntKind.i64.wrap (v14_3 + 1)))
  else
    some (.done (.x0))
set_option maxHeartbeats 4000000 in
theorem mandolineref14_Right.l0_ok {α : Type} {F : Env → Heap → Option α} {K : List Fr} (fin : mandolineref14_Right.l0X → Option α) (a0 : api_Meta)
    (hx0 : ∀ (e : Env) (H : Heap), e 1 = (.ptr [1] 1 0 0) → H [1] = (1, some ⟨false, false, 11, [(.agg [(.str a0.Tag_Text), (.bool a0.Tag_Weak), (.int .i64 a0.Modified), (.int .i64 a0.Length), (.int .i64 a0.Have), (.int .i64 a0.Fresh), (.int .i64 a0.While), (.int .i64 a0.Error), (.sl (encL AV.str a0.Keys)), (.str a0.Tenant), (.bool a0.Keep)])]⟩) → outL X [] F K e H 0 = fin (.x0))
    (hret : ∀ (e : Env) (H : Heap), e 2 = (.bool false) → F e H = fin (.ret)) (v14_3 : Int) (e : Env) (H : Heap) (g1_14 : e 1 = (.ptr [1] 1 0 0)) (g3_14 : e 3 = (.int .i64 v14_3)) (k1_14 : H [1] = (1, some ⟨false, false, 11, [(.agg [(.str a0.Tag_Text), (.bool a0.Tag_Weak), (.int .i64 a0.Modified), (.int .i64 a0.Length), (.int .i64 a0.Have), (.int .i64 a0.Fresh), (.int .i64 a0.While), (.int .i64 a0.Error), (.sl (encL AV.str a0.Keys)), (.str a0.Tenant), (.bool a0.Keep)])]⟩)) :
    runL X [] F (.c (.loop c10_l0) :: K) e H = (loopL (mandolineref14_Right.l0B a0) v14_3).bind fin := by
  refine loop_of (R := fun (v14_3 : Int) (e : Env) (H : Heap) => e 1 = (.ptr [1] 1 0 0) ∧ e 3 = (.int .i64 v14_3) ∧ H [1] = (1, some ⟨false, false, 11, [(.agg [(.str a0.Tag_Text), (.bool a0.Tag_Weak), (.int .i64 a0.Modified), (.int .i64 a0.Length), (.int .i64 a0.Have), (.int .i64 a0.Fresh), (.int .i64 a0.While), (.int .i64 a0.Error), (.sl (encL AV.str a0.Keys)), (.str a0.Tenant), (.bool a0.Keep)])]⟩)) fin ?_ ⟨g1_14, g3_14, k1_14⟩
  clear k1_14 g3_14 g1_14 e H v14_3
  intro n G hn hd s e H hR
  revert hR; revert s; intro v14_3 hR
  obtain ⟨g1_14, g3_14, k1_14⟩ := hR
  simp only [D, DT, reduceIte, reduceCtorEq, Nat.reduceEqDiff, Nat.reduceAdd, Nat.reduceLT, Nat.reduceLeDiff, Nat.reduceBEq, Int.reduceLE, Int.reduceLT, Int.reduceEq, Int.reduceNeg, mandolineref14_Right.l0B, g1_14, g3_14, k1_14, c10_l0]
  cases h21 : (decide (v14_3 < (a0.Tag_Text.length : Int)))
  · simp only [D, DT, reduceIte, reduceCtorEq, Nat.reduceEqDiff, Nat.reduceAdd, Nat.reduceLT, Nat.reduceLeDiff, Nat.reduceBEq, Int.reduceLE, Int.reduceLT, Int.reduceEq, Int.reduceNeg, g1_14, g3_14, k1_14, c10_l0, h21]
    exact (hx0 _ _ (by first | (simp only [D, DT, reduceIte, reduceCtorEq, Nat.reduceEqDiff, Nat.reduceAdd, Nat.reduceLT, Nat.reduceLeDiff, Nat.reduceBEq, Int.reduceLE, Int.reduceLT, Int.reduceEq, Int.reduceNeg, g1_14, g3_14, k1_14, c10_l0, h21] <;> rfl) | rfl) (by first | (simp only [D, DT, reduceIte, reduceCtorEq, Nat.reduceEqDiff, Nat.reduceAdd, Nat.reduceLT, Nat.reduceLeDiff, Nat.reduceBEq, Int.reduceLE, Int.reduceLT, Int.reduceEq, Int.reduceNeg, g1_14, g3_14, k1_14, c10_l0, h21] <;> rfl) | rfl)).trans (hd _).symm
  · simp only [D, DT, reduceIte, reduceCtorEq, Nat.reduceEqDiff, Nat.reduceAdd, Nat.reduceLT, Nat.reduceLeDiff, Nat.reduceBEq, Int.reduceLE, Int.reduceLT, Int.reduceEq, Int.reduceNeg, g1_14, g3_14, k1_14, c10_l0, h21]
    rcases h22 : idx a0.Tag_Text v14_3 with _ | x23
    · simp only [D, DT, reduceIte, reduceCtorEq, Nat.reduceEqDiff, Nat.reduceAdd, Nat.reduceLT, Nat.reduceLeDiff, Nat.reduceBEq, Int.reduceLE, Int.reduceLT, Int.reduceEq, Int.reduceNeg, g1_14, g3_14, k1_14, c10_l0, h21, h22]
    · simp only [D, DT, reduceIte, reduceCtorEq, Nat.reduceEqDiff, Nat.reduceAdd, Nat.reduceLT, Nat.reduceLeDiff, Nat.reduceBEq, Int.reduceLE, Int.reduceLT, Int.reduceEq, Int.reduceNeg, g1_14, g3_14, k1_14, c10_l0, h21, h22]
      cases h24 : (decide ((126 : Int) < (x23.toNat : Int)))
      · simp only [D, DT, reduceIte, reduceCtorEq, Nat.reduceEqDiff, Nat.reduceAdd, Nat.reduceLT, Nat.reduceLeDiff, Nat.reduceBEq, Int.reduceLE, Int.reduceLT, Int.reduceEq, Int.reduceNeg, g1_14, g3_14, k1_14, c10_l0, h21, h22, h24]
        exact hn _ _ _ ⟨(by first | (simp only [D, DT, reduceIte, reduceCtorEq, Nat.reduceEqDiff, Nat.reduceAdd, Nat.reduceLT, Nat.reduceLeDiff, Nat.reduceBEq, Int.reduceLE, Int.reduceLT, Int.reduceEq, Int.reduceNeg, g1_14, g3_14, k1_14, c10_l0, h21, h22, h24] <;> rfl) | rfl), (by first | (simp only [D, DT, reduceIte, reduceCtorEq, Nat.reduceEqDiff, Nat.reduceAdd, Nat.reduceLT, Nat.reduceLeDiff, Nat.reduceBEq, Int.reduceLE, Int.reduceLT, Int.reduceEq, Int.reduceNeg, g1_14, g3_14, k1_14, c10_l0, h21, h22, h24] <;> rfl) | rfl), (by first | (simp only [D, DT, reduceIte, reduceCtorEq, Nat.reduceEqDiff, Nat.reduceAdd, Nat.reduceLT, Nat.reduceLeDiff, Nat.reduceBEq, Int.reduceLE, Int.reduceLT, Int.reduceEq, Int.reduceNeg, g1_14, g3_14, k1_14, c10_l0, h21, h22, h24] <;> rfl) | rfl)⟩
      · simp only [D, DT, reduceIte, reduceCtorEq, Nat.reduceEqDiff, Nat.reduceAdd, Nat.reduceLT, Nat.reduceLeDiff, Nat.reduceBEq, Int.reduceLE, Int.reduceLT, Int.reduceEq, Int.reduceNeg, g1_14, g3_14, k1_14, c10_l0, h21, h22, h24]
        exact (hret _ _ (by first | (simp only [D, DT, reduceIte, reduceCtorEq, Nat.reduceEqDiff, Nat.reduceAdd, Nat.reduceLT, Nat.reduceLeDiff, Nat.reduceBEq, Int.reduceLE, Int.reduceLT, Int.reduceEq, Int.reduceNeg, g1_14, g3_14, k1_14, c10_l0, h21, h22, h24] <;> rfl) | rfl)).trans (hd _).symm
noncomputable def mandolineref14_Right.a0 (a0 : api_Meta) : mandolineref14_Right.l0X → Option Bool
  | .x0 =>
    bif (decide (a0.Modified < (-1))) then
      some false
    else
      bif (decide ((253402300799 : Int) < a0.Modified)) then
        some false
      else
        bif (decide (a0.Length < (-1))) then
          some false
        else
          bif (decide ((1099511627776 : Int) < a0.Length)) then
            some false
          else
            bif (decide (a0.Have < 0)) then
              some false
            else
              bif (decide ((1099511627776 : Int) < a0.Have)) then
                some false
              else
                bif (decide ((0 : Int) ≤ a0.Length)) then
                  bif (decide (a0.Have = a0.Length)) then
                    bif (decide (a0.Fresh < 0)) then
                      some false
                    else
                      bif (decide ((1099511627776 : Int) < a0.Fresh)) then
                        some false
                      else
                        bif (decide (a0.While < 0)) then
                          some false
                        else
                          bif (decide ((1099511627776 : Int) < a0.While)) then
                            some false
                          else
                            bif (decide (a0.Error < 0)) then
                              some false
                            else
                              bif (decide ((1099511627776 : Int) < a0.Error)) then
                                some false
                              else
                                (mandolineref14_keys.f a0.Keys).bind fun x55 =>
                                bif x55 then
                                  (mandolineref14_Tenant.f a0.Tenant).bind fun x59 =>
                                  some x59
                                else
                                  some false
                  else
                    some false
                else
                  bif (decide (a0.Fresh < 0)) then
                    some false
                  else
                    bif (decide ((1099511627776 : Int) < a0.Fresh)) then
                      some false
                    else
                      bif (decide (a0.While < 0)) then
                        some false
                      else
                        bif (decide ((1099511627776 : Int) < a0.While)) then
                          some false
                        else
                          bif (decide (a0.Error < 0)) then
                            some false
                          else
                            bif (decide ((1099511627776 : Int) < a0.Error)) then
                              some false
                            else
                              (mandolineref14_keys.f a0.Keys).bind fun x41 =>
                              bif x41 then
                                (mandolineref14_Tenant.f a0.Tenant).bind fun x45 =>
                                some x45
                              else
                                some false
  | .ret =>
    some false
inductive mandolineref14_Right.l1X where
  | x0
  | ret
noncomputable def mandolineref14_Right.l1B (a0 : api_Meta) (v66_3 : Int) : Option (Step (Int) mandolineref14_Right.l1X) :=
  bif (decide (v66_3 < (a0.Tag_Text.length : Int))) then
    (idx a0.Tag_Text v66_3).bind fun x75 =>
    bif (decide ((126 : Int) < (x75.toNat : Int))) then
      some (.done (.ret))
    else
      some (.next (IntKind.i64.wrap (v66_3 + 1)))
  else
    some (.done (.x0))
set_option maxHeartbeats 4000000 in
theorem mandolineref14_Right.l1_ok {α : Type} {F : Env → Heap → Option α} {K : List Fr} (fin : mandolineref14_Right.l1X → Option α) (a0 : api_Meta)
    (hx0 : ∀ (e : Env) (H : Heap), e 1 = (.ptr [1] 1 0 0) → H [1] = (1, some ⟨false, false, 11, [(.agg [(.str a0.Tag_Text), (.bool a0.Tag_Weak), (.int .i64 a0.Modified), (.int .i64 a0.Length), (.int .i64 a0.Have), (.int .i64 a0.Fresh), (.int .i64 a0.While), (.int .i64 a0.Error), (.sl (encL AV.str a0.Keys)), (.str a0.Tenant), (.bool a0.Keep)])]⟩) → outL X [] F K e H 0 = fin (.x0))
    (hret : ∀ (e : Env) (H : Heap), e 2 = (.bool false) → F e H = fin (.ret)) (v66_3 : Int) (e : Env) (H : Heap) (g1_66 : e 1 = (.ptr [1] 1 0 0)) (g3_66 : e 3 = (.int .i64 v66_3)) (k1_66 : H [1] = (1, some ⟨false, false, 11, [(.agg [(.str a0.Tag_Text), (.bool a0.Tag_Weak), (.int .i64 a0.Modified), (.int .i64 a0.Length), (.int .i64 a0.Have), (.int .i64 a0.Fresh), (.int .i64 a0.While), (.int .i64 a0.Error), (.sl (encL AV.str a0.Keys)), (.str a0.Tenant), (.bool a0.Keep)])]⟩)) :
    runL X [] F (.c (.loop c10_l0) :: K) e H = (loopL (mandolineref14_Right.l1B a0) v66_3).bind fin := by
  refine loop_of (R := fun (v66_3 : Int) (e : Env) (H : Heap) => e 1 = (.ptr [1] 1 0 0) ∧ e 3 = (.int .i64 v66_3) ∧ H [1] = (1, some ⟨false, false, 11, [(.agg [(.str a0.Tag_Text), (.bool a0.Tag_Weak), (.int .i64 a0.Modified), (.int .i64 a0.Length), (.int .i64 a0.Have), (.int .i64 a0.Fresh), (.int .i64 a0.While), (.int .i64 a0.Error), (.sl (encL AV.str a0.Keys)), (.str a0.Tenant), (.bool a0.Keep)])]⟩)) fin ?_ ⟨g1_66, g3_66, k1_66⟩
  clear k1_66 g3_66 g1_66 e H v66_3
  intro n G hn hd s e H hR
  revert hR; revert s; intro v66_3 hR
  obtain ⟨g1_66, g3_66, k1_66⟩ := hR
  simp only [D, DT, reduceIte, reduceCtorEq, Nat.reduceEqDiff, Nat.reduceAdd, Nat.reduceLT, Nat.reduceLeDiff, Nat.reduceBEq, Int.reduceLE, Int.reduceLT, Int.reduceEq, Int.reduceNeg, mandolineref14_Right.l1B, g1_66, g3_66, k1_66, c10_l0]
  cases h73 : (decide (v66_3 < (a0.Tag_Text.length : Int)))
  · simp only [D, DT, reduceIte, reduceCtorEq, Nat.reduceEqDiff, Nat.reduceAdd, Nat.reduceLT, Nat.reduceLeDiff, Nat.reduceBEq, Int.reduceLE, Int.reduceLT, Int.reduceEq, Int.reduceNeg, g1_66, g3_66, k1_66, c10_l0, h73]
    exact (hx0 _ _ (by first | (simp only [D, DT, reduceIte, reduceCtorEq, Nat.reduceEqDiff, Nat.reduceAdd, Nat.reduceLT, Nat.reduceLeDiff, Nat.reduceBEq, Int.reduceLE, Int.reduceLT, Int.reduceEq, Int.reduceNeg, g1_66, g3_66, k1_66, c10_l0, h73] <;> rfl) | rfl) (by first | (simp only [D, DT, reduceIte, reduceCtorEq, Nat.reduceEqDiff, Nat.reduceAdd, Nat.reduceLT, Nat.reduceLeDiff, Nat.reduceBEq, Int.reduceLE, Int.reduceLT, Int.reduceEq, Int.reduceNeg, g1_66, g3_66, k1_66, c10_l0, h73] <;> rfl) | rfl)).trans (hd _).symm
  · simp only [D, DT, reduceIte, reduceCtorEq, Nat.reduceEqDiff, Nat.reduceAdd, Nat.reduceLT, Nat.reduceLeDiff, Nat.reduceBEq, Int.reduceLE, Int.reduceLT, Int.reduceEq, Int.reduceNeg, g1_66, g3_66, k1_66, c10_l0, h73]
    rcases h74 : idx a0.Tag_Text v66_3 with _ | x75
    · simp only [D, DT, reduceIte, reduceCtorEq, Nat.reduceEqDiff, Nat.reduceAdd, Nat.reduceLT, Nat.reduceLeDiff, Nat.reduceBEq, Int.reduceLE, Int.reduceLT, Int.reduceEq, Int.reduceNeg, g1_66, g3_66, k1_66, c10_l0, h73, h74]
    · simp only [D, DT, reduceIte, reduceCtorEq, Nat.reduceEqDiff, Nat.reduceAdd, Nat.reduceLT, Nat.reduceLeDiff, Nat.reduceBEq, Int.reduceLE, Int.reduceLT, Int.reduceEq, Int.reduceNeg, g1_66, g3_66, k1_66, c10_l0, h73, h74]
      cases h76 : (decide ((126 : Int) < (x75.toNat : Int)))
      · simp only [D, DT, reduceIte, reduceCtorEq, Nat.reduceEqDiff, Nat.reduceAdd, Nat.reduceLT, Nat.reduceLeDiff, Nat.reduceBEq, Int.reduceLE, Int.reduceLT, Int.reduceEq, Int.reduceNeg, g1_66, g3_66, k1_66, c10_l0, h73, h74, h76]
        exact hn _ _ _ ⟨(by first | (simp only [D, DT, reduceIte, reduceCtorEq, Nat.reduceEqDiff, Nat.reduceAdd, Nat.reduceLT, Nat.reduceLeDiff, Nat.reduceBEq, Int.reduceLE, Int.reduceLT, Int.reduceEq, Int.reduceNeg, g1_66, g3_66, k1_66, c10_l0, h73, h74, h76] <;> rfl) | rfl), (by first | (simp only [D, DT, reduceIte, reduceCtorEq, Nat.reduceEqDiff, Nat.reduceAdd, Nat.reduceLT, Nat.reduceLeDiff, Nat.reduceBEq, Int.reduceLE, Int.reduceLT, Int.reduceEq, Int.reduceNeg, g1_66, g3_66, k1_66, c10_l0, h73, h74, h76] <;> rfl) | rfl), (by first | (simp only [D, DT, reduceIte, reduceCtorEq, Nat.reduceEqDiff, Nat.reduceAdd, Nat.reduceLT, Nat.reduceLeDiff, Nat.reduceBEq, Int.reduceLE, Int.reduceLT, Int.reduceEq, Int.reduceNeg, g1_66, g3_66, k1_66, c10_l0, h73, h74, h76] <;> rfl) | rfl)⟩
      · simp only [D, DT, reduceIte, reduceCtorEq, Nat.reduceEqDiff, Nat.reduceAdd, Nat.reduceLT, Nat.reduceLeDiff, Nat.reduceBEq, Int.reduceLE, Int.reduceLT, Int.reduceEq, Int.reduceNeg, g1_66, g3_66, k1_66, c10_l0, h73, h74, h76]
        exact (hret _ _ (by first | (simp only [D, DT, reduceIte, reduceCtorEq, Nat.reduceEqDiff, Nat.reduceAdd, Nat.reduceLT, Nat.reduceLeDiff, Nat.reduceBEq, Int.reduceLE, Int.reduceLT, Int.reduceEq, Int.reduceNeg, g1_66, g3_66, k1_66, c10_l0, h73, h74, h76] <;> rfl) | rfl)).trans (hd _).symm
noncomputable def mandolineref14_Right.a1 (a0 : api_Meta) : mandolineref14_Right.l1X → Option Bool
  | .x0 =>
    bif (decide (a0.Modified < (-1))) then
      some false
    else
      bif (decide ((253402300799 : Int) < a0.Modified)) then
        some false
      else
        bif (decide (a0.Length < (-1))) then
          some false
        else
          bif (decide ((1099511627776 : Int) < a0.Length)) then
            some false
          else
            bif (decide (a0.Have < 0)) then
              some false
            else
              bif (decide ((1099511627776 : Int) < a0.Have)) then
                some false
              else
                bif (decide ((0 : Int) ≤ a0.Length)) then
                  bif (decide (a0.Have = a0.Length)) then
                    bif (decide (a0.Fresh < 0)) then
                      some false
                    else
                      bif (decide ((1099511627776 : Int) < a0.Fresh)) then
                        some false
                      else
                        bif (decide (a0.While < 0)) then
                          some false
                        else
                          bif (decide ((1099511627776 : Int) < a0.While)) then
                            some false
                          else
                            bif (decide (a0.Error < 0)) then
                              some false
                            else
                              bif (decide ((1099511627776 : Int) < a0.Error)) then
                                some false
                              else
                                (mandolineref14_keys.f a0.Keys).bind fun x107 =>
                                bif x107 then
                                  (mandolineref14_Tenant.f a0.Tenant).bind fun x111 =>
                                  some x111
                                else
                                  some false
                  else
                    some false
                else
                  bif (decide (a0.Fresh < 0)) then
                    some false
                  else
                    bif (decide ((1099511627776 : Int) < a0.Fresh)) then
                      some false
                    else
                      bif (decide (a0.While < 0)) then
                        some false
                      else
                        bif (decide ((1099511627776 : Int) < a0.While)) then
                          some false
                        else
                          bif (decide (a0.Error < 0)) then
                            some false
                          else
                            bif (decide ((1099511627776 : Int) < a0.Error)) then
                              some false
                            else
                              (mandolineref14_keys.f a0.Keys).bind fun x93 =>
                              bif x93 then
                                (mandolineref14_Tenant.f a0.Tenant).bind fun x97 =>
                                some x97
                              else
                                some false
  | .ret =>
    some false
noncomputable def mandolineref14_Right.f (a0 : api_Meta) : Option Bool :=
  (mandolineref14_none.f (api_Tag.mk a0.Tag_Text a0.Tag_Weak)).bind fun x3 =>
  bif x3 then
    (loopL (mandolineref14_Right.l1B a0) 0).bind (mandolineref14_Right.a1 a0)
  else
    (mandolineref05_Right.f (api_Tag.mk a0.Tag_Text a0.Tag_Weak)).bind fun x7 =>
    bif x7 then
      (loopL (mandolineref14_Right.l0B a0) 0).bind (mandolineref14_Right.a0 a0)
    else
      some false
set_option maxHeartbeats 4000000 in
theorem mandolineref14_Right.ok (a0 : api_Meta) : ansL X 10 [(.agg [(.str a0.Tag_Text), (.bool a0.Tag_Weak), (.int .i64 a0.Modified), (.int .i64 a0.Length), (.int .i64 a0.Have), (.int .i64 a0.Fresh), (.int .i64 a0.While), (.int .i64 a0.Error), (.sl (encL AV.str a0.Keys)), (.str a0.Tenant), (.bool a0.Keep)])] = Option.map AV.bool (mandolineref14_Right.f a0) := by
  rw [ansL_run (fd := c10) rfl rfl]
  simp only [D, DT, reduceIte, reduceCtorEq, Nat.reduceEqDiff, Nat.reduceAdd, Nat.reduceLT, Nat.reduceLeDiff, Nat.reduceBEq, Int.reduceLE, Int.reduceLT, Int.reduceEq, Int.reduceNeg, c10, mandolineref14_Right.f]
  have c1 : ansL X 24 [(.agg [(.str a0.Tag_Text), (.bool a0.Tag_Weak)])] = Option.map AV.bool (mandolineref14_none.f (api_Tag.mk a0.Tag_Text a0.Tag_Weak)) := mandolineref14_none.ok (api_Tag.mk a0.Tag_Text a0.Tag_Weak)
  rcases h2 : mandolineref14_none.f (api_Tag.mk a0.Tag_Text a0.Tag_Weak) with _ | x3
  · simp only [D, DT, reduceIte, reduceCtorEq, Nat.reduceEqDiff, Nat.reduceAdd, Nat.reduceLT, Nat.reduceLeDiff, Nat.reduceBEq, Int.reduceLE, Int.reduceLT, Int.reduceEq, Int.reduceNeg, c1, h2]
  · simp only [D, DT, reduceIte, reduceCtorEq, Nat.reduceEqDiff, Nat.reduceAdd, Nat.reduceLT, Nat.reduceLeDiff, Nat.reduceBEq, Int.reduceLE, Int.reduceLT, Int.reduceEq, Int.reduceNeg, c1, h2]
    cases h4 : x3
    · simp only [D, DT, reduceIte, reduceCtorEq, Nat.reduceEqDiff, Nat.reduceAdd, Nat.reduceLT, Nat.reduceLeDiff, Nat.reduceBEq, Int.reduceLE, Int.reduceLT, Int.reduceEq, Int.reduceNeg, c1, h2, h4]
      have c5 : ansL X 25 [(.agg [(.str a0.Tag_Text), (.bool a0.Tag_Weak)])] = Option.map AV.bool (mandolineref05_Right.f (api_Tag.mk a0.Tag_Text a0.Tag_Weak)) := mandolineref05_Right.ok (api_Tag.mk a0.Tag_Text a0.Tag_Weak)
      rcases h6 : mandolineref05_Right.f (api_Tag.mk a0.Tag_Text a0.Tag_Weak) with _ | x7
      · simp only [D, DT, reduceIte, reduceCtorEq, Nat.reduceEqDiff, Nat.reduceAdd, Nat.reduceLT, Nat.reduceLeDiff, Nat.reduceBEq, Int.reduceLE, Int.reduceLT, Int.reduceEq, Int.reduceNeg, c1, h2, h4, c5, h6]
      · simp only [D, DT, reduceIte, reduceCtorEq, Nat.reduceEqDiff, Nat.reduceAdd, Nat.reduceLT, Nat.reduceLeDiff, Nat.reduceBEq, Int.reduceLE, Int.reduceLT, Int.reduceEq, Int.reduceNeg, c1, h2, h4, c5, h6]
        cases h8 : x7
        · simp only [D, DT, reduceIte, reduceCtorEq, Nat.reduceEqDiff, Nat.reduceAdd, Nat.reduceLT, Nat.reduceLeDiff, Nat.reduceBEq, Int.reduceLE, Int.reduceLT, Int.reduceEq, Int.reduceNeg, c1, h2, h4, c5, h6, h8]
          try rfl
        · simp only [D, DT, reduceIte, reduceCtorEq, Nat.reduceEqDiff, Nat.reduceAdd, Nat.reduceLT, Nat.reduceLeDiff, Nat.reduceBEq, Int.reduceLE, Int.reduceLT, Int.reduceEq, Int.reduceNeg, c1, h2, h4, c5, h6, h8]
          refine Eq.trans (mandolineref14_Right.l0_ok (fun x => Option.map AV.bool (mandolineref14_Right.a0 a0 x)) a0 ?_ ?_ 0 _ _ (by first | (simp only [D, DT, reduceIte, reduceCtorEq, Nat.reduceEqDiff, Nat.reduceAdd, Nat.reduceLT, Nat.reduceLeDiff, Nat.reduceBEq, Int.reduceLE, Int.reduceLT, Int.reduceEq, Int.reduceNeg, c1, h2, h4, c5, h6, h8] <;> rfl) | rfl) (by first | (simp only [D, DT, reduceIte, reduceCtorEq, Nat.reduceEqDiff, Nat.reduceAdd, Nat.reduceLT, Nat.reduceLeDiff, Nat.reduceBEq, Int.reduceLE, Int.reduceLT, Int.reduceEq, Int.reduceNeg, c1, h2, h4, c5, h6, h8] <;> rfl) | rfl) (by first | (simp only [D, DT, reduceIte, reduceCtorEq, Nat.reduceEqDiff, Nat.reduceAdd, Nat.reduceLT, Nat.reduceLeDiff, Nat.reduceBEq, Int.reduceLE, Int.reduceLT, Int.reduceEq, Int.reduceNeg, c1, h2, h4, c5, h6, h8] <;> rfl) | rfl)) ?_
          · intro e_25 H_25 g1_19_25 k1_19_25
            simp only [D, DT, reduceIte, reduceCtorEq, Nat.reduceEqDiff, Nat.reduceAdd, Nat.reduceLT, Nat.reduceLeDiff, Nat.reduceBEq, Int.reduceLE, Int.reduceLT, Int.reduceEq, Int.reduceNeg, mandolineref14_Right.a0, c1, h2, h4, c5, h6, h8, g1_19_25, k1_19_25]
            cases h26 : (decide (a0.Modified < (-1)))
            · simp only [D, DT, reduceIte, reduceCtorEq, Nat.reduceEqDiff, Nat.reduceAdd, Nat.reduceLT, Nat.reduceLeDiff, Nat.reduceBEq, Int.reduceLE, Int.reduceLT, Int.reduceEq, Int.reduceNeg, c1, h2, h4, c5, h6, h8, g1_19_25, k1_19_25, h26]
              cases h27 : (decide ((253402300799 : Int) < a0.Modified))
              · simp only [D, DT, reduceIte, reduceCtorEq, Nat.reduceEqDiff, Nat.reduceAdd, Nat.reduceLT, Nat.reduceLeDiff, Nat.reduceBEq, Int.reduceLE, Int.reduceLT, Int.reduceEq, Int.reduceNeg, c1, h2, h4, c5, h6, h8, g1_19_25, k1_19_25, h26, h27]
                cases h28 : (decide (a0.Length < (-1)))
                · simp only [D, DT, reduceIte, reduceCtorEq, Nat.reduceEqDiff, Nat.reduceAdd, Nat.reduceLT, Nat.reduceLeDiff, Nat.reduceBEq, Int.reduceLE, Int.reduceLT, Int.reduceEq, Int.reduceNeg, c1, h2, h4, c5, h6, h8, g1_19_25, k1_19_25, h26, h27, h28]
                  cases h29 : (decide ((1099511627776 : Int) < a0.Length))
                  · simp only [D, DT, reduceIte, reduceCtorEq, Nat.reduceEqDiff, Nat.reduceAdd, Nat.reduceLT, Nat.reduceLeDiff, Nat.reduceBEq, Int.reduceLE, Int.reduceLT, Int.reduceEq, Int.reduceNeg, c1, h2, h4, c5, h6, h8, g1_19_25, k1_19_25, h26, h27, h28, h29]
                    cases h30 : (decide (a0.Have < 0))
                    · simp only [D, DT, reduceIte, reduceCtorEq, Nat.reduceEqDiff, Nat.reduceAdd, Nat.reduceLT, Nat.reduceLeDiff, Nat.reduceBEq, Int.reduceLE, Int.reduceLT, Int.reduceEq, Int.reduceNeg, c1, h2, h4, c5, h6, h8, g1_19_25, k1_19_25, h26, h27, h28, h29, h30]
                      cases h31 : (decide ((1099511627776 : Int) < a0.Have))
                      · simp only [D, DT, reduceIte, reduceCtorEq, Nat.reduceEqDiff, Nat.reduceAdd, Nat.reduceLT, Nat.reduceLeDiff, Nat.reduceBEq, Int.reduceLE, Int.reduceLT, Int.reduceEq, Int.reduceNeg, c1, h2, h4, c5, h6, h8, g1_19_25, k1_19_25, h26, h27, h28, h29, h30, h31]
                        cases h32 : (decide ((0 : Int) ≤ a0.Length))
                        · simp only [D, DT, reduceIte, reduceCtorEq, Nat.reduceEqDiff, Nat.reduceAdd, Nat.reduceLT, Nat.reduceLeDiff, Nat.reduceBEq, Int.reduceLE, Int.reduceLT, Int.reduceEq, Int.reduceNeg, c1, h2, h4, c5, h6, h8, g1_19_25, k1_19_25, h26, h27, h28, h29, h30, h31, h32]
                          cases h33 : (decide (a0.Fresh < 0))
                          · simp only [D, DT, reduceIte, reduceCtorEq, Nat.reduceEqDiff, Nat.reduceAdd, Nat.reduceLT, Nat.reduceLeDiff, Nat.reduceBEq, Int.reduceLE, Int.reduceLT, Int.reduceEq, Int.reduceNeg, c1, h2, h4, c5, h6, h8, g1_19_25, k1_19_25, h26, h27, h28, h29, h30, h31, h32, h33]
                            cases h34 : (decide ((1099511627776 : Int) < a0.Fresh))
                            · simp only [D, DT, reduceIte, reduceCtorEq, Nat.reduceEqDiff, Nat.reduceAdd, Nat.reduceLT, Nat.reduceLeDiff, Nat.reduceBEq, Int.reduceLE, Int.reduceLT, Int.reduceEq, Int.reduceNeg, c1, h2, h4, c5, h6, h8, g1_19_25, k1_19_25, h26, h27, h28, h29, h30, h31, h32, h33, h34]
                              cases h35 : (decide (a0.While < 0))
                              · simp only [D, DT, reduceIte, reduceCtorEq, Nat.reduceEqDiff, Nat.reduceAdd, Nat.reduceLT, Nat.reduceLeDiff, Nat.reduceBEq, Int.reduceLE, Int.reduceLT, Int.reduceEq, Int.reduceNeg, c1, h2, h4, c5, h6, h8, g1_19_25, k1_19_25, h26, h27, h28, h29, h30, h31, h32, h33, h34, h35]
                                cases h36 : (decide ((1099511627776 : Int) < a0.While))
                                · simp only [D, DT, reduceIte, reduceCtorEq, Nat.reduceEqDiff, Nat.reduceAdd, Nat.reduceLT, Nat.reduceLeDiff, Nat.reduceBEq, Int.reduceLE, Int.reduceLT, Int.reduceEq, Int.reduceNeg, c1, h2, h4, c5, h6, h8, g1_19_25, k1_19_25, h26, h27, h28, h29, h30, h31, h32, h33, h34, h35, h36]
                                  cases h37 : (decide (a0.Error < 0))
                                  · simp only [D, DT, reduceIte, reduceCtorEq, Nat.reduceEqDiff, Nat.reduceAdd, Nat.reduceLT, Nat.reduceLeDiff, Nat.reduceBEq, Int.reduceLE, Int.reduceLT, Int.reduceEq, Int.reduceNeg, c1, h2, h4, c5, h6, h8, g1_19_25, k1_19_25, h26, h27, h28, h29, h30, h31, h32, h33, h34, h35, h36, h37]
                                    cases h38 : (decide ((1099511627776 : Int) < a0.Error))
                                    · simp only [D, DT, reduceIte, reduceCtorEq, Nat.reduceEqDiff, Nat.reduceAdd, Nat.reduceLT, Nat.reduceLeDiff, Nat.reduceBEq, Int.reduceLE, Int.reduceLT, Int.reduceEq, Int.reduceNeg, c1, h2, h4, c5, h6, h8, g1_19_25, k1_19_25, h26, h27, h28, h29, h30, h31, h32, h33, h34, h35, h36, h37, h38]
                                      have c39 : ansL X 26 [(.sl (encL AV.str a0.Keys))] = Option.map AV.bool (mandolineref14_keys.f a0.Keys) := mandolineref14_keys.ok a0.Keys
                                      rcases h40 : mandolineref14_keys.f a0.Keys with _ | x41
                                      · simp only [D, DT, reduceIte, reduceCtorEq, Nat.reduceEqDiff, Nat.reduceAdd, Nat.reduceLT, Nat.reduceLeDiff, Nat.reduceBEq, Int.reduceLE, Int.reduceLT, Int.reduceEq, Int.reduceNeg, c1, h2, h4, c5, h6, h8, g1_19_25, k1_19_25, h26, h27, h28, h29, h30, h31, h32, h33, h34, h35, h36, h37, h38, c39, h40]
                                      · simp only [D, DT, reduceIte, reduceCtorEq, Nat.reduceEqDiff, Nat.reduceAdd, Nat.reduceLT, Nat.reduceLeDiff, Nat.reduceBEq, Int.reduceLE, Int.reduceLT, Int.reduceEq, Int.reduceNeg, c1, h2, h4, c5, h6, h8, g1_19_25, k1_19_25, h26, h27, h28, h29, h30, h31, h32, h33, h34, h35, h36, h37, h38, c39, h40]
                                        cases h42 : x41
                                        · simp only [D, DT, reduceIte, reduceCtorEq, Nat.reduceEqDiff, Nat.reduceAdd, Nat.reduceLT, Nat.reduceLeDiff, Nat.reduceBEq, Int.reduceLE, Int.reduceLT, Int.reduceEq, Int.reduceNeg, c1, h2, h4, c5, h6, h8, g1_19_25, k1_19_25, h26, h27, h28, h29, h30, h31, h32, h33, h34, h35, h36, h37, h38, c39, h40, h42]
                                          try rfl
                                        · simp only [D, DT, reduceIte, reduceCtorEq, Nat.reduceEqDiff, Nat.reduceAdd, Nat.reduceLT, Nat.reduceLeDiff, Nat.reduceBEq, Int.reduceLE, Int.reduceLT, Int.reduceEq, Int.reduceNeg, c1, h2, h4, c5, h6, h8, g1_19_25, k1_19_25, h26, h27, h28, h29, h30, h31, h32, h33, h34, h35, h36, h37, h38, c39, h40, h42]
                                          have c43 : ansL X 27 [(.str a0.Tenant)] = Option.map AV.bool (mandolineref14_Tenant.f a0.Tenant) := mandolineref14_Tenant.ok a0.Tenant
                                          rcases h44 : mandolineref14_Tenant.f a0.Tenant with _ | x45
                                          · simp only [D, DT, reduceIte, reduceCtorEq, Nat.reduceEqDiff, Nat.reduceAdd, Nat.reduceLT, Nat.reduceLeDiff, Nat.reduceBEq, Int.reduceLE, Int.reduceLT, Int.reduceEq, Int.reduceNeg, c1, h2, h4, c5, h6, h8, g1_19_25, k1_19_25, h26, h27, h28, h29, h30, h31, h32, h33, h34, h35, h36, h37, h38, c39, h40, h42, c43, h44]
                                          · simp only [D, DT, reduceIte, reduceCtorEq, Nat.reduceEqDiff, Nat.reduceAdd, Nat.reduceLT, Nat.reduceLeDiff, Nat.reduceBEq, Int.reduceLE, Int.reduceLT, Int.reduceEq, Int.reduceNeg, c1, h2, h4, c5, h6, h8, g1_19_25, k1_19_25, h26, h27, h28, h29, h30, h31, h32, h33, h34, h35, h36, h37, h38, c39, h40, h42, c43, h44]
                                            try rfl
                                    · simp only [D, DT, reduceIte, reduceCtorEq, Nat.reduceEqDiff, Nat.reduceAdd, Nat.reduceLT, Nat.reduceLeDiff, Nat.reduceBEq, Int.reduceLE, Int.reduceLT, Int.reduceEq, Int.reduceNeg, c1, h2, h4, c5, h6, h8, g1_19_25, k1_19_25, h26, h27, h28, h29, h30, h31, h32, h33, h34, h35, h36, h37, h38]
                                      try rfl
                                  · simp only [D, DT, reduceIte, reduceCtorEq, Nat.reduceEqDiff, Nat.reduceAdd, Nat.reduceLT, Nat.reduceLeDiff, Nat.reduceBEq, Int.reduceLE, Int.reduceLT, Int.reduceEq, Int.reduceNeg, c1, h2, h4, c5, h6, h8, g1_19_25, k1_19_25, h26, h27, h28, h29, h30, h31, h32, h33, h34, h35, h36, h37]
                                    try rfl
                                · simp only [D, DT, reduceIte, reduceCtorEq, Nat.reduceEqDiff, Nat.reduceAdd, Nat.reduceLT, Nat.reduceLeDiff, Nat.reduceBEq, Int.reduceLE, Int.reduceLT, Int.reduceEq, Int.reduceNeg, c1, h2, h4, c5, h6, h8, g1_19_25, k1_19_25, h26, h27, h28, h29, h30, h31, h32, h33, h34, h35, h36]
                                  try rfl
                              · simp only [D, DT, reduceIte, reduceCtorEq, Nat.reduceEqDiff, Nat.reduceAdd, Nat.reduceLT, Nat.reduceLeDiff, Nat.reduceBEq, Int.reduceLE, Int.reduceLT, Int.reduceEq, Int.reduceNeg, c1, h2, h4, c5, h6, h8, g1_19_25, k1_19_25, h26, h27, h28, h29, h30, h31, h32, h33, h34, h35]
                                try rfl
                            · simp only [D, DT, reduceIte, reduceCtorEq, Nat.reduceEqDiff, Nat.reduceAdd, Nat.reduceLT, Nat.reduceLeDiff, Nat.reduceBEq, Int.reduceLE, Int.reduceLT, Int.reduceEq, Int.reduceNeg, c1, h2, h4, c5, h6, h8, g1_19_25, k1_19_25, h26, h27, h28, h29, h30, h31, h32, h33, h34]
                              try rfl
                          · simp only [D, DT, reduceIte, reduceCtorEq, Nat.reduceEqDiff, Nat.reduceAdd, Nat.reduceLT, Nat.reduceLeDiff, Nat.reduceBEq, Int.reduceLE, Int.reduceLT, Int.reduceEq, Int.reduceNeg, c1, h2, h4, c5, h6, h8, g1_19_25, k1_19_25, h26, h27, h28, h29, h30, h31, h32, h33]
                            try rfl
                        · simp only [D, DT, reduceIte, reduceCtorEq, Nat.reduceEqDiff, Nat.reduceAdd, Nat.reduceLT, Nat.reduceLeDiff, Nat.reduceBEq, Int.reduceLE, Int.reduceLT, Int.reduceEq, Int.reduceNeg, c1, h2, h4, c5, h6, h8, g1_19_25, k1_19_25, h26, h27, h28, h29, h30, h31, h32]
                          cases h46 : (decide (a0.Have = a0.Length))
                          · simp only [D, DT, reduceIte, reduceCtorEq, Nat.reduceEqDiff, Nat.reduceAdd, Nat.reduceLT, Nat.reduceLeDiff, Nat.reduceBEq, Int.reduceLE, Int.reduceLT, Int.reduceEq, Int.reduceNeg, c1, h2, h4, c5, h6, h8, g1_19_25, k1_19_25, h26, h27, h28, h29, h30, h31, h32, h46]
                            try rfl
                          · simp only [D, DT, reduceIte, reduceCtorEq, Nat.reduceEqDiff, Nat.reduceAdd, Nat.reduceLT, Nat.reduceLeDiff, Nat.reduceBEq, Int.reduceLE, Int.reduceLT, Int.reduceEq, Int.reduceNeg, c1, h2, h4, c5, h6, h8, g1_19_25, k1_19_25, h26, h27, h28, h29, h30, h31, h32, h46]
                            cases h47 : (decide (a0.Fresh < 0))
                            · simp only [D, DT, reduceIte, reduceCtorEq, Nat.reduceEqDiff, Nat.reduceAdd, Nat.reduceLT, Nat.reduceLeDiff, Nat.reduceBEq, Int.reduceLE, Int.reduceLT, Int.reduceEq, Int.reduceNeg, c1, h2, h4, c5, h6, h8, g1_19_25, k1_19_25, h26, h27, h28, h29, h30, h31, h32, h46, h47]
                              cases h48 : (decide ((1099511627776 : Int) < a0.Fresh))
                              · simp only [D, DT, reduceIte, reduceCtorEq, Nat.reduceEqDiff, Nat.reduceAdd, Nat.reduceLT, Nat.reduceLeDiff, Nat.reduceBEq, Int.reduceLE, Int.reduceLT, Int.reduceEq, Int.reduceNeg, c1, h2, h4, c5, h6, h8, g1_19_25, k1_19_25, h26, h27, h28, h29, h30, h31, h32, h46, h47, h48]
                                cases h49 : (decide (a0.While < 0))
                                · simp only [D, DT, reduceIte, reduceCtorEq, Nat.reduceEqDiff, Nat.reduceAdd, Nat.reduceLT, Nat.reduceLeDiff, Nat.reduceBEq, Int.reduceLE, Int.reduceLT, Int.reduceEq, Int.reduceNeg, c1, h2, h4, c5, h6, h8, g1_19_25, k1_19_25, h26, h27, h28, h29, h30, h31, h32, h46, h47, h48, h49]
                                  cases h50 : (decide ((1099511627776 : Int) < a0.While))
                                  · simp only [D, DT, reduceIte, reduceCtorEq, Nat.reduceEqDiff, Nat.reduceAdd, Nat.reduceLT, Nat.reduceLeDiff, Nat.reduceBEq, Int.reduceLE, Int.reduceLT, Int.reduceEq, Int.reduceNeg, c1, h2, h4, c5, h6, h8, g1_19_25, k1_19_25, h26, h27, h28, h29, h30, h31, h32, h46, h47, h48, h49, h50]
                                    cases h51 : (decide (a0.Error < 0))
                                    · simp only [D, DT, reduceIte, reduceCtorEq, Nat.reduceEqDiff, Nat.reduceAdd, Nat.reduceLT, Nat.reduceLeDiff, Nat.reduceBEq, Int.reduceLE, Int.reduceLT, Int.reduceEq, Int.reduceNeg, c1, h2, h4, c5, h6, h8, g1_19_25, k1_19_25, h26, h27, h28, h29, h30, h31, h32, h46, h47, h48, h49, h50, h51]
                                      cases h52 : (decide ((1099511627776 : Int) < a0.Error))
                                      · simp only [D, DT, reduceIte, reduceCtorEq, Nat.reduceEqDiff, Nat.reduceAdd, Nat.reduceLT, Nat.reduceLeDiff, Nat.reduceBEq, Int.reduceLE, Int.reduceLT, Int.reduceEq, Int.reduceNeg, c1, h2, h4, c5, h6, h8, g1_19_25, k1_19_25, h26, h27, h28, h29, h30, h31, h32, h46, h47, h48, h49, h50, h51, h52]
                                        have c53 : ansL X 26 [(.sl (encL AV.str a0.Keys))] = Option.map AV.bool (mandolineref14_keys.f a0.Keys) := mandolineref14_keys.ok a0.Keys
                                        rcases h54 : mandolineref14_keys.f a0.Keys with _ | x55
                                        · simp only [D, DT, reduceIte, reduceCtorEq, Nat.reduceEqDiff, Nat.reduceAdd, Nat.reduceLT, Nat.reduceLeDiff, Nat.reduceBEq, Int.reduceLE, Int.reduceLT, Int.reduceEq, Int.reduceNeg, c1, h2, h4, c5, h6, h8, g1_19_25, k1_19_25, h26, h27, h28, h29, h30, h31, h32, h46, h47, h48, h49, h50, h51, h52, c53, h54]
                                        · simp only [D, DT, reduceIte, reduceCtorEq, Nat.reduceEqDiff, Nat.reduceAdd, Nat.reduceLT, Nat.reduceLeDiff, Nat.reduceBEq, Int.reduceLE, Int.reduceLT, Int.reduceEq, Int.reduceNeg, c1, h2, h4, c5, h6, h8, g1_19_25, k1_19_25, h26, h27, h28, h29, h30, h31, h32, h46, h47, h48, h49, h50, h51, h52, c53, h54]
                                          cases h56 : x55
                                          · simp only [D, DT, reduceIte, reduceCtorEq, Nat.reduceEqDiff, Nat.reduceAdd, Nat.reduceLT, Nat.reduceLeDiff, Nat.reduceBEq, Int.reduceLE, Int.reduceLT, Int.reduceEq, Int.reduceNeg, c1, h2, h4, c5, h6, h8, g1_19_25, k1_19_25, h26, h27, h28, h29, h30, h31, h32, h46, h47, h48, h49, h50, h51, h52, c53, h54, h56]
                                            try rfl
                                          · simp only [D, DT, reduceIte, reduceCtorEq, Nat.reduceEqDiff, Nat.reduceAdd, Nat.reduceLT, Nat.reduceLeDiff, Nat.reduceBEq, Int.reduceLE, Int.reduceLT, Int.reduceEq, Int.reduceNeg, c1, h2, h4, c5, h6, h8, g1_19_25, k1_19_25, h26, h27, h28, h29, h30, h31, h32, h46, h47, h48, h49, h50, h51, h52, c53, h54, h56]
                                            have c57 : ansL X 27 [(.str a0.Tenant)] = Option.map AV.bool (mandolineref14_Tenant.f a0.Tenant) := mandolineref14_Tenant.ok a0.Tenant
                                            rcases h58 : mandolineref14_Tenant.f a0.Tenant with _ | x59
                                            · simp only [D, DT, reduceIte, reduceCtorEq, Nat.reduceEqDiff, Nat.reduceAdd, Nat.reduceLT, Nat.reduceLeDiff, Nat.reduceBEq, Int.reduceLE, Int.reduceLT, Int.reduceEq, Int.reduceNeg, c1, h2, h4, c5, h6, h8, g1_19_25, k1_19_25, h26, h27, h28, h29, h30, h31, h32, h46, h47, h48, h49, h50, h51, h52, c53, h54, h56, c57, h58]
                                            · simp only [D, DT, reduceIte, reduceCtorEq, Nat.reduceEqDiff, Nat.reduceAdd, Nat.reduceLT, Nat.reduceLeDiff, Nat.reduceBEq, Int.reduceLE, Int.reduceLT, Int.reduceEq, Int.reduceNeg, c1, h2, h4, c5, h6, h8, g1_19_25, k1_19_25, h26, h27, h28, h29, h30, h31, h32, h46, h47, h48, h49, h50, h51, h52, c53, h54, h56, c57, h58]
                                              try rfl
                                      · simp only [D, DT, reduceIte, reduceCtorEq, Nat.reduceEqDiff, Nat.reduceAdd, Nat.reduceLT, Nat.reduceLeDiff, Nat.reduceBEq, Int.reduceLE, Int.reduceLT, Int.reduceEq, Int.reduceNeg, c1, h2, h4, c5, h6, h8, g1_19_25, k1_19_25, h26, h27, h28, h29, h30, h31, h32, h46, h47, h48, h49, h50, h51, h52]
                                        try rfl
                                    · simp only [D, DT, reduceIte, reduceCtorEq, Nat.reduceEqDiff, Nat.reduceAdd, Nat.reduceLT, Nat.reduceLeDiff, Nat.reduceBEq, Int.reduceLE, Int.reduceLT, Int.reduceEq, Int.reduceNeg, c1, h2, h4, c5, h6, h8, g1_19_25, k1_19_25, h26, h27, h28, h29, h30, h31, h32, h46, h47, h48, h49, h50, h51]
                                      try rfl
                                  · simp only [D, DT, reduceIte, reduceCtorEq, Nat.reduceEqDiff, Nat.reduceAdd, Nat.reduceLT, Nat.reduceLeDiff, Nat.reduceBEq, Int.reduceLE, Int.reduceLT, Int.reduceEq, Int.reduceNeg, c1, h2, h4, c5, h6, h8, g1_19_25, k1_19_25, h26, h27, h28, h29, h30, h31, h32, h46, h47, h48, h49, h50]
                                    try rfl
                                · simp only [D, DT, reduceIte, reduceCtorEq, Nat.reduceEqDiff, Nat.reduceAdd, Nat.reduceLT, Nat.reduceLeDiff, Nat.reduceBEq, Int.reduceLE, Int.reduceLT, Int.reduceEq, Int.reduceNeg, c1, h2, h4, c5, h6, h8, g1_19_25, k1_19_25, h26, h27, h28, h29, h30, h31, h32, h46, h47, h48, h49]
                                  try rfl
                              · simp only [D, DT, reduceIte, reduceCtorEq, Nat.reduceEqDiff, Nat.reduceAdd, Nat.reduceLT, Nat.reduceLeDiff, Nat.reduceBEq, Int.reduceLE, Int.reduceLT, Int.reduceEq, Int.reduceNeg, c1, h2, h4, c5, h6, h8, g1_19_25, k1_19_25, h26, h27, h28, h29, h30, h31, h32, h46, h47, h48]
                                try rfl
                            · simp only [D, DT, reduceIte, reduceCtorEq, Nat.reduceEqDiff, Nat.reduceAdd, Nat.reduceLT, Nat.reduceLeDiff, Nat.reduceBEq, Int.reduceLE, Int.reduceLT, Int.reduceEq, Int.reduceNeg, c1, h2, h4, c5, h6, h8, g1_19_25, k1_19_25, h26, h27, h28, h29, h30, h31, h32, h46, h47]
                              try rfl
                      · simp only [D, DT, reduceIte, reduceCtorEq, Nat.reduceEqDiff, Nat.reduceAdd, Nat.reduceLT, Nat.reduceLeDiff, Nat.reduceBEq, Int.reduceLE, Int.reduceLT, Int.reduceEq, Int.reduceNeg, c1, h2, h4, c5, h6, h8, g1_19_25, k1_19_25, h26, h27, h28, h29, h30, h31]
                        try rfl
                    · simp only [D, DT, reduceIte, reduceCtorEq, Nat.reduceEqDiff, Nat.reduceAdd, Nat.reduceLT, Nat.reduceLeDiff, Nat.reduceBEq, Int.reduceLE, Int.reduceLT, Int.reduceEq, Int.reduceNeg, c1, h2, h4, c5, h6, h8, g1_19_25, k1_19_25, h26, h27, h28, h29, h30]
                      try rfl
                  · simp only [D, DT, reduceIte, reduceCtorEq, Nat.reduceEqDiff, Nat.reduceAdd, Nat.reduceLT, Nat.reduceLeDiff, Nat.reduceBEq, Int.reduceLE, Int.reduceLT, Int.reduceEq, Int.reduceNeg, c1, h2, h4, c5, h6, h8, g1_19_25, k1_19_25, h26, h27, h28, h29]
                    try rfl
                · simp only [D, DT, reduceIte, reduceCtorEq, Nat.reduceEqDiff, Nat.reduceAdd, Nat.reduceLT, Nat.reduceLeDiff, Nat.reduceBEq, Int.reduceLE, Int.reduceLT, Int.reduceEq, Int.reduceNeg, c1, h2, h4, c5, h6, h8, g1_19_25, k1_19_25, h26, h27, h28]
                  try rfl
              · simp only [D, DT, reduceIte, reduceCtorEq, Nat.reduceEqDiff, Nat.reduceAdd, Nat.reduceLT, Nat.reduceLeDiff, Nat.reduceBEq, Int.reduceLE, Int.reduceLT, Int.reduceEq, Int.reduceNeg, c1, h2, h4, c5, h6, h8, g1_19_25, k1_19_25, h26, h27]
                try rfl
            · simp only [D, DT, reduceIte, reduceCtorEq, Nat.reduceEqDiff, Nat.reduceAdd, Nat.reduceLT, Nat.reduceLeDiff, Nat.reduceBEq, Int.reduceLE, Int.reduceLT, Int.reduceEq, Int.reduceNeg, c1, h2, h4, c5, h6, h8, g1_19_25, k1_19_25, h26]
              try rfl
          · intro e_60 H_60 g2_20_60
            simp only [D, DT, reduceIte, reduceCtorEq, Nat.reduceEqDiff, Nat.reduceAdd, Nat.reduceLT, Nat.reduceLeDiff, Nat.reduceBEq, Int.reduceLE, Int.reduceLT, Int.reduceEq, Int.reduceNeg, mandolineref14_Right.a0, c1, h2, h4, c5, h6, h8, g2_20_60]
            try rfl
          exact mb _ _ _
    · simp only [D, DT, reduceIte, reduceCtorEq, Nat.reduceEqDiff, Nat.reduceAdd, Nat.reduceLT, Nat.reduceLeDiff, Nat.reduceBEq, Int.reduceLE, Int.reduceLT, Int.reduceEq, Int.reduceNeg, c1, h2, h4]
      refine Eq.trans (mandolineref14_Right.l1_ok (fun x => Option.map AV.bool (mandolineref14_Right.a1 a0 x)) a0 ?_ ?_ 0 _ _ (by first | (simp only [D, DT, reduceIte, reduceCtorEq, Nat.reduceEqDiff, Nat.reduceAdd, Nat.reduceLT, Nat.reduceLeDiff, Nat.reduceBEq, Int.reduceLE, Int.reduceLT, Int.reduceEq, Int.reduceNeg, c1, h2, h4] <;> rfl) | rfl) (by first | (simp only [D, DT, reduceIte, reduceCtorEq, Nat.reduceEqDiff, Nat.reduceAdd, Nat.reduceLT, Nat.reduceLeDiff, Nat.reduceBEq, Int.reduceLE, Int.reduceLT, Int.reduceEq, Int.reduceNeg, c1, h2, h4] <;> rfl) | rfl) (by first | (simp only [D, DT, reduceIte, reduceCtorEq, Nat.reduceEqDiff, Nat.reduceAdd, Nat.reduceLT, Nat.reduceLeDiff, Nat.reduceBEq, Int.reduceLE, Int.reduceLT, Int.reduceEq, Int.reduceNeg, c1, h2, h4] <;> rfl) | rfl)) ?_
      · intro e_77 H_77 g1_71_77 k1_71_77
        simp only [D, DT, reduceIte, reduceCtorEq, Nat.reduceEqDiff, Nat.reduceAdd, Nat.reduceLT, Nat.reduceLeDiff, Nat.reduceBEq, Int.reduceLE, Int.reduceLT, Int.reduceEq, Int.reduceNeg, mandolineref14_Right.a1, c1, h2, h4, g1_71_77, k1_71_77]
        cases h78 : (decide (a0.Modified < (-1)))
        · simp only [D, DT, reduceIte, reduceCtorEq, Nat.reduceEqDiff, Nat.reduceAdd, Nat.reduceLT, Nat.reduceLeDiff, Nat.reduceBEq, Int.reduceLE, Int.reduceLT, Int.reduceEq, Int.reduceNeg, c1, h2, h4, g1_71_77, k1_71_77, h78]
          cases h79 : (decide ((253402300799 : Int) < a0.Modified))
          · simp only [D, DT, reduceIte, reduceCtorEq, Nat.reduceEqDiff, Nat.reduceAdd, Nat.reduceLT, Nat.reduceLeDiff, Nat.reduceBEq, Int.reduceLE, Int.reduceLT, Int.reduceEq, Int.reduceNeg, c1, h2, h4, g1_71_77, k1_71_77, h78, h79]
            cases h80 : (decide (a0.Length < (-1)))
            · simp only [D, DT, reduceIte, reduceCtorEq, Nat.reduceEqDiff, Nat.reduceAdd, Nat.reduceLT, Nat.reduceLeDiff, Nat.reduceBEq, Int.reduceLE, Int.reduceLT, Int.reduceEq, Int.reduceNeg, c1, h2, h4, g1_71_77, k1_71_77, h78, h79, h80]
              cases h81 : (decide ((1099511627776 : Int) < a0.Length))
              · simp only [D, DT, reduceIte, reduceCtorEq, Nat.reduceEqDiff, Nat.reduceAdd, Nat.reduceLT, Nat.reduceLeDiff, Nat.reduceBEq, Int.reduceLE, Int.reduceLT, Int.reduceEq, Int.reduceNeg, c1, h2, h4, g1_71_77, k1_71_77, h78, h79, h80, h81]
                cases h82 : (decide (a0.Have < 0))
                · simp only [D, DT, reduceIte, reduceCtorEq, Nat.reduceEqDiff, Nat.reduceAdd, Nat.reduceLT, Nat.reduceLeDiff, Nat.reduceBEq, Int.reduceLE, Int.reduceLT, Int.reduceEq, Int.reduceNeg, c1, h2, h4, g1_71_77, k1_71_77, h78, h79, h80, h81, h82]
                  cases h83 : (decide ((1099511627776 : Int) < a0.Have))
                  · simp only [D, DT, reduceIte, reduceCtorEq, Nat.reduceEqDiff, Nat.reduceAdd, Nat.reduceLT, Nat.reduceLeDiff, Nat.reduceBEq, Int.reduceLE, Int.reduceLT, Int.reduceEq, Int.reduceNeg, c1, h2, h4, g1_71_77, k1_71_77, h78, h79, h80, h81, h82, h83]
                    cases h84 : (decide ((0 : Int) ≤ a0.Length))
                    · simp only [D, DT, reduceIte, reduceCtorEq, Nat.reduceEqDiff, Nat.reduceAdd, Nat.reduceLT, Nat.reduceLeDiff, Nat.reduceBEq, Int.reduceLE, Int.reduceLT, Int.reduceEq, Int.reduceNeg, c1, h2, h4, g1_71_77, k1_71_77, h78, h79, h80, h81, h82, h83, h84]
                      cases h85 : (decide (a0.Fresh < 0))
                      · simp only [D, DT, reduceIte, reduceCtorEq, Nat.reduceEqDiff, Nat.reduceAdd, Nat.reduceLT, Nat.reduceLeDiff, Nat.reduceBEq, Int.reduceLE, Int.reduceLT, Int.reduceEq, Int.reduceNeg, c1, h2, h4, g1_71_77, k1_71_77, h78, h79, h80, h81, h82, h83, h84, h85]
                        cases h86 : (decide ((1099511627776 : Int) < a0.Fresh))
                        · simp only [D, DT, reduceIte, reduceCtorEq, Nat.reduceEqDiff, Nat.reduceAdd, Nat.reduceLT, Nat.reduceLeDiff, Nat.reduceBEq, Int.reduceLE, Int.reduceLT, Int.reduceEq, Int.reduceNeg, c1, h2, h4, g1_71_77, k1_71_77, h78, h79, h80, h81, h82, h83, h84, h85, h86]
                          cases h87 : (decide (a0.While < 0))
                          · simp only [D, DT, reduceIte, reduceCtorEq, Nat.reduceEqDiff, Nat.reduceAdd, Nat.reduceLT, Nat.reduceLeDiff, Nat.reduceBEq, Int.reduceLE, Int.reduceLT, Int.reduceEq, Int.reduceNeg, c1, h2, h4, g1_71_77, k1_71_77, h78, h79, h80, h81, h82, h83, h84, h85, h86, h87]
                            cases h88 : (decide ((1099511627776 : Int) < a0.While))
                            · simp only [D, DT, reduceIte, reduceCtorEq, Nat.reduceEqDiff, Nat.reduceAdd, Nat.reduceLT, Nat.reduceLeDiff, Nat.reduceBEq, Int.reduceLE, Int.reduceLT, Int.reduceEq, Int.reduceNeg, c1, h2, h4, g1_71_77, k1_71_77, h78, h79, h80, h81, h82, h83, h84, h85, h86, h87, h88]
                              cases h89 : (decide (a0.Error < 0))
                              · simp only [D, DT, reduceIte, reduceCtorEq, Nat.reduceEqDiff, Nat.reduceAdd, Nat.reduceLT, Nat.reduceLeDiff, Nat.reduceBEq, Int.reduceLE, Int.reduceLT, Int.reduceEq, Int.reduceNeg, c1, h2, h4, g1_71_77, k1_71_77, h78, h79, h80, h81, h82, h83, h84, h85, h86, h87, h88, h89]
                                cases h90 : (decide ((1099511627776 : Int) < a0.Error))
                                · simp only [D, DT, reduceIte, reduceCtorEq, Nat.reduceEqDiff, Nat.reduceAdd, Nat.reduceLT, Nat.reduceLeDiff, Nat.reduceBEq, Int.reduceLE, Int.reduceLT, Int.reduceEq, Int.reduceNeg, c1, h2, h4, g1_71_77, k1_71_77, h78, h79, h80, h81, h82, h83, h84, h85, h86, h87, h88, h89, h90]
                                  have c91 : ansL X 26 [(.sl (encL AV.str a0.Keys))] = Option.map AV.bool (mandolineref14_keys.f a0.Keys) := mandolineref14_keys.ok a0.Keys
                                  rcases h92 : mandolineref14_keys.f a0.Keys with _ | x93
                                  · simp only [D, DT, reduceIte, reduceCtorEq, Nat.reduceEqDiff, Nat.reduceAdd, Nat.reduceLT, Nat.reduceLeDiff, Nat.reduceBEq, Int.reduceLE, Int.reduceLT, Int.reduceEq, Int.reduceNeg, c1, h2, h4, g1_71_77, k1_71_77, h78, h79, h80, h81, h82, h83, h84, h85, h86, h87, h88, h89, h90, c91, h92]
                                  · simp only [D, DT, reduceIte, reduceCtorEq, Nat.reduceEqDiff, Nat.reduceAdd, Nat.reduceLT, Nat.reduceLeDiff, Nat.reduceBEq, Int.reduceLE, Int.reduceLT, Int.reduceEq, Int.reduceNeg, c1, h2, h4, g1_71_77, k1_71_77, h78, h79, h80, h81, h82, h83, h84, h85, h86, h87, h88, h89, h90, c91, h92]
                                    cases h94 : x93
                                    · simp only [D, DT, reduceIte, reduceCtorEq, Nat.reduceEqDiff, Nat.reduceAdd, Nat.reduceLT, Nat.reduceLeDiff, Nat.reduceBEq, Int.reduceLE, Int.reduceLT, Int.reduceEq, Int.reduceNeg, c1, h2, h4, g1_71_77, k1_71_77, h78, h79, h80, h81, h82, h83, h84, h85, h86, h87, h88, h89, h90, c91, h92, h94]
                                      try rfl
                                    · simp only [D, DT, reduceIte, reduceCtorEq, Nat.reduceEqDiff, Nat.reduceAdd, Nat.reduceLT, Nat.reduceLeDiff, Nat.reduceBEq, Int.reduceLE, Int.reduceLT, Int.reduceEq, Int.reduceNeg, c1, h2, h4, g1_71_77, k1_71_77, h78, h79, h80, h81, h82, h83, h84, h85, h86, h87, h88, h89, h90, c91, h92, h94]
                                      have c95 : ansL X 27 [(.str a0.Tenant)] = Option.map AV.bool (mandolineref14_Tenant.f a0.Tenant) := mandolineref14_Tenant.ok a0.Tenant
                                      rcases h96 : mandolineref14_Tenant.f a0.Tenant with _ | x97
                                      · simp only [D, DT, reduceIte, reduceCtorEq, Nat.reduceEqDiff, Nat.reduceAdd, Nat.reduceLT, Nat.reduceLeDiff, Nat.reduceBEq, Int.reduceLE, Int.reduceLT, Int.reduceEq, Int.reduceNeg, c1, h2, h4, g1_71_77, k1_71_77, h78, h79, h80, h81, h82, h83, h84, h85, h86, h87, h88, h89, h90, c91, h92, h94, c95, h96]
                                      · simp only [D, DT, reduceIte, reduceCtorEq, Nat.reduceEqDiff, Nat.reduceAdd, Nat.reduceLT, Nat.reduceLeDiff, Nat.reduceBEq, Int.reduceLE, Int.reduceLT, Int.reduceEq, Int.reduceNeg, c1, h2, h4, g1_71_77, k1_71_77, h78, h79, h80, h81, h82, h83, h84, h85, h86, h87, h88, h89, h90, c91, h92, h94, c95, h96]
                                        try rfl
                                · simp only [D, DT, reduceIte, reduceCtorEq, Nat.reduceEqDiff, Nat.reduceAdd, Nat.reduceLT, Nat.reduceLeDiff, Nat.reduceBEq, Int.reduceLE, Int.reduceLT, Int.reduceEq, Int.reduceNeg, c1, h2, h4, g1_71_77, k1_71_77, h78, h79, h80, h81, h82, h83, h84, h85, h86, h87, h88, h89, h90]
                                  try rfl
                              · simp only [D, DT, reduceIte, reduceCtorEq, Nat.reduceEqDiff, Nat.reduceAdd, Nat.reduceLT, Nat.reduceLeDiff, Nat.reduceBEq, Int.reduceLE, Int.reduceLT, Int.reduceEq, Int.reduceNeg, c1, h2, h4, g1_71_77, k1_71_77, h78, h79, h80, h81, h82, h83, h84, h85, h86, h87, h88, h89]
                                try rfl
                            · simp only [D, DT, reduceIte, reduceCtorEq, Nat.reduceEqDiff, Nat.reduceAdd, Nat.reduceLT, Nat.reduceLeDiff, Nat.reduceBEq, Int.reduceLE, Int.reduceLT, Int.reduceEq, Int.reduceNeg, c1, h2, h4, g1_71_77, k1_71_77, h78, h79, h80, h81, h82, h83, h84, h85, h86, h87, h88]
                              try rfl
                          · simp only [D, DT, reduceIte, reduceCtorEq, Nat.reduceEqDiff, Nat.reduceAdd, Nat.reduceLT, Nat.reduceLeDiff, Nat.reduceBEq, Int.reduceLE, Int.reduceLT, Int.reduceEq, Int.reduceNeg, c1, h2, h4, g1_71_77, k1_71_77, h78, h79, h80, h81, h82, h83, h84, h85, h86, h87]
                            try rfl
                        · simp only [D, DT, reduceIte, reduceCtorEq, Nat.reduceEqDiff, Nat.reduceAdd, Nat.reduceLT, Nat.reduceLeDiff, Nat.reduceBEq, Int.reduceLE, Int.reduceLT, Int.reduceEq, Int.reduceNeg, c1, h2, h4, g1_71_77, k1_71_77, h78, h79, h80, h81, h82, h83, h84, h85, h86]
                          try rfl
                      · simp only [D, DT, reduceIte, reduceCtorEq, Nat.reduceEqDiff, Nat.reduceAdd, Nat.reduceLT, Nat.reduceLeDiff, Nat.reduceBEq, Int.reduceLE, Int.reduceLT, Int.reduceEq, Int.reduceNeg, c1, h2, h4, g1_71_77, k1_71_77, h78, h79, h80, h81, h82, h83, h84, h85]
                        try rfl
                    · simp only [D, DT, reduceIte, reduceCtorEq, Nat.reduceEqDiff, Nat.reduceAdd, Nat.reduceLT, Nat.reduceLeDiff, Nat.reduceBEq, Int.reduceLE, Int.reduceLT, Int.reduceEq, Int.reduceNeg, c1, h2, h4, g1_71_77, k1_71_77, h78, h79, h80, h81, h82, h83, h84]
                      cases h98 : (decide (a0.Have = a0.Length))
                      · simp only [D, DT, reduceIte, reduceCtorEq, Nat.reduceEqDiff, Nat.reduceAdd, Nat.reduceLT, Nat.reduceLeDiff, Nat.reduceBEq, Int.reduceLE, Int.reduceLT, Int.reduceEq, Int.reduceNeg, c1, h2, h4, g1_71_77, k1_71_77, h78, h79, h80, h81, h82, h83, h84, h98]
                        try rfl
                      · simp only [D, DT, reduceIte, reduceCtorEq, Nat.reduceEqDiff, Nat.reduceAdd, Nat.reduceLT, Nat.reduceLeDiff, Nat.reduceBEq, Int.reduceLE, Int.reduceLT, Int.reduceEq, Int.reduceNeg, c1, h2, h4, g1_71_77, k1_71_77, h78, h79, h80, h81, h82, h83, h84, h98]
                        cases h99 : (decide (a0.Fresh < 0))
                        · simp only [D, DT, reduceIte, reduceCtorEq, Nat.reduceEqDiff, Nat.reduceAdd, Nat.reduceLT, Nat.reduceLeDiff, Nat.reduceBEq, Int.reduceLE, Int.reduceLT, Int.reduceEq, Int.reduceNeg, c1, h2, h4, g1_71_77, k1_71_77, h78, h79, h80, h81, h82, h83, h84, h98, h99]
                          cases h100 : (decide ((1099511627776 : Int) < a0.Fresh))
                          · simp only [D, DT, reduceIte, reduceCtorEq, Nat.reduceEqDiff, Nat.reduceAdd, Nat.reduceLT, Nat.reduceLeDiff, Nat.reduceBEq, Int.reduceLE, Int.reduceLT, Int.reduceEq, Int.reduceNeg, c1, h2, h4, g1_71_77, k1_71_77, h78, h79, h80, h81, h82, h83, h84, h98, h99, h100]
                            cases h101 : (decide (a0.While < 0))
                            · simp only [D, DT, reduceIte, reduceCtorEq, Nat.reduceEqDiff, Nat.reduceAdd, Nat.reduceLT, Nat.reduceLeDiff, Nat.reduceBEq, Int.reduceLE, Int.reduceLT, Int.reduceEq, Int.reduceNeg, c1, h2, h4, g1_71_77, k1_71_77, h78, h79, h80, h81, h82, h83, h84, h98, h99, h100, h101]
                              cases h102 : (decide ((1099511627776 : Int) < a0.While))
                              · simp only [D, DT, reduceIte, reduceCtorEq, Nat.reduceEqDiff, Nat.reduceAdd, Nat.reduceLT, Nat.reduceLeDiff, Nat.reduceBEq, Int.reduceLE, Int.reduceLT, Int.reduceEq, Int.reduceNeg, c1, h2, h4, g1_71_77, k1_71_77, h78, h79, h80, h81, h82, h83, h84, h98, h99, h100, h101, h102]
                                cases h103 : (decide (a0.Error < 0))
                                · simp only [D, DT, reduceIte, reduceCtorEq, Nat.reduceEqDiff, Nat.reduceAdd, Nat.reduceLT, Nat.reduceLeDiff, Nat.reduceBEq, Int.reduceLE, Int.reduceLT, Int.reduceEq, Int.reduceNeg, c1, h2, h4, g1_71_77, k1_71_77, h78, h79, h80, h81, h82, h83, h84, h98, h99, h100, h101, h102, h103]
                                  cases h104 : (decide ((1099511627776 : Int) < a0.Error))
                                  · simp only [D, DT, reduceIte, reduceCtorEq, Nat.reduceEqDiff, Nat.reduceAdd, Nat.reduceLT, Nat.reduceLeDiff, Nat.reduceBEq, Int.reduceLE, Int.reduceLT, Int.reduceEq, Int.reduceNeg, c1, h2, h4, g1_71_77, k1_71_77, h78, h79, h80, h81, h82, h83, h84, h98, h99, h100, h101, h102, h103, h104]
                                    have c105 : ansL X 26 [(.sl (encL AV.str a0.Keys))] = Option.map AV.bool (mandolineref14_keys.f a0.Keys) := mandolineref14_keys.ok a0.Keys
                                    rcases h106 : mandolineref14_keys.f a0.Keys with _ | x107
                                    · simp only [D, DT, reduceIte, reduceCtorEq, Nat.reduceEqDiff, Nat.reduceAdd, Nat.reduceLT, Nat.reduceLeDiff, Nat.reduceBEq, Int.reduceLE, Int.reduceLT, Int.reduceEq, Int.reduceNeg, c1, h2, h4, g1_71_77, k1_71_77, h78, h79, h80, h81, h82, h83, h84, h98, h99, h100, h101, h102, h103, h104, c105, h106]
                                    · simp only [D, DT, reduceIte, reduceCtorEq, Nat.reduceEqDiff, Nat.reduceAdd, Nat.reduceLT, Nat.reduceLeDiff, Nat.reduceBEq, Int.reduceLE, Int.reduceLT, Int.reduceEq, Int.reduceNeg, c1, h2, h4, g1_71_77, k1_71_77, h78, h79, h80, h81, h82, h83, h84, h98, h99, h100, h101, h102, h103, h104, c105, h106]
                                      cases h108 : x107
                                      · simp only [D, DT, reduceIte, reduceCtorEq, Nat.reduceEqDiff, Nat.reduceAdd, Nat.reduceLT, Nat.reduceLeDiff, Nat.reduceBEq, Int.reduceLE, Int.reduceLT, Int.reduceEq, Int.reduceNeg, c1, h2, h4, g1_71_77, k1_71_77, h78, h79, h80, h81, h82, h83, h84, h98, h99, h100, h101, h102, h103, h104, c105, h106, h108]
                                        try rfl
                                      · simp only [D, DT, reduceIte, reduceCtorEq, Nat.reduceEqDiff, Nat.reduceAdd, Nat.reduceLT, Nat.reduceLeDiff, Nat.reduceBEq, Int.reduceLE, Int.reduceLT, Int.reduceEq, Int.reduceNeg, c1, h2, h4, g1_71_77, k1_71_77, h78, h79, h80, h81, h82, h83, h84, h98, h99, h100, h101, h102, h103, h104, c105, h106, h108]
                                        have c109 : ansL X 27 [(.str a0.Tenant)] = Option.map AV.bool (mandolineref14_Tenant.f a0.Tenant) := mandolineref14_Tenant.ok a0.Tenant
                                        rcases h110 : mandolineref14_Tenant.f a0.Tenant with _ | x111
                                        · simp only [D, DT, reduceIte, reduceCtorEq, Nat.reduceEqDiff, Nat.reduceAdd, Nat.reduceLT, Nat.reduceLeDiff, Nat.reduceBEq, Int.reduceLE, Int.reduceLT, Int.reduceEq, Int.reduceNeg, c1, h2, h4, g1_71_77, k1_71_77, h78, h79, h80, h81, h82, h83, h84, h98, h99, h100, h101, h102, h103, h104, c105, h106, h108, c109, h110]
                                        · simp only [D, DT, reduceIte, reduceCtorEq, Nat.reduceEqDiff, Nat.reduceAdd, Nat.reduceLT, Nat.reduceLeDiff, Nat.reduceBEq, Int.reduceLE, Int.reduceLT, Int.reduceEq, Int.reduceNeg, c1, h2, h4, g1_71_77, k1_71_77, h78, h79, h80, h81, h82, h83, h84, h98, h99, h100, h101, h102, h103, h104, c105, h106, h108, c109, h110]
                                          try rfl
                                  · simp only [D, DT, reduceIte, reduceCtorEq, Nat.reduceEqDiff, Nat.reduceAdd, Nat.reduceLT, Nat.reduceLeDiff, Nat.reduceBEq, Int.reduceLE, Int.reduceLT, Int.reduceEq, Int.reduceNeg, c1, h2, h4, g1_71_77, k1_71_77, h78, h79, h80, h81, h82, h83, h84, h98, h99, h100, h101, h102, h103, h104]
                                    try rfl
                                · simp only [D, DT, reduceIte, reduceCtorEq, Nat.reduceEqDiff, Nat.reduceAdd, Nat.reduceLT, Nat.reduceLeDiff, Nat.reduceBEq, Int.reduceLE, Int.reduceLT, Int.reduceEq, Int.reduceNeg, c1, h2, h4, g1_71_77, k1_71_77, h78, h79, h80, h81, h82, h83, h84, h98, h99, h100, h101, h102, h103]
                                  try rfl
                              · simp only [D, DT, reduceIte, reduceCtorEq, Nat.reduceEqDiff, Nat.reduceAdd, Nat.reduceLT, Nat.reduceLeDiff, Nat.reduceBEq, Int.reduceLE, Int.reduceLT, Int.reduceEq, Int.reduceNeg, c1, h2, h4, g1_71_77, k1_71_77, h78, h79, h80, h81, h82, h83, h84, h98, h99, h100, h101, h102]
                                try rfl
                            · simp only [D, DT, reduceIte, reduceCtorEq, Nat.reduceEqDiff, Nat.reduceAdd, Nat.reduceLT, Nat.reduceLeDiff, Nat.reduceBEq, Int.reduceLE, Int.reduceLT, Int.reduceEq, Int.reduceNeg, c1, h2, h4, g1_71_77, k1_71_77, h78, h79, h80, h81, h82, h83, h84, h98, h99, h100, h101]
                              try rfl
                          · simp only [D, DT, reduceIte, reduceCtorEq, Nat.reduceEqDiff, Nat.reduceAdd, Nat.reduceLT, Nat.reduceLeDiff, Nat.reduceBEq, Int.reduceLE, Int.reduceLT, Int.reduceEq, Int.reduceNeg, c1, h2, h4, g1_71_77, k1_71_77, h78, h79, h80, h81, h82, h83, h84, h98, h99, h100]
                            try rfl
                        · simp only [D, DT, reduceIte, reduceCtorEq, Nat.reduceEqDiff, Nat.reduceAdd, Nat.reduceLT, Nat.reduceLeDiff, Nat.reduceBEq, Int.reduceLE, Int.reduceLT, Int.reduceEq, Int.reduceNeg, c1, h2, h4, g1_71_77, k1_71_77, h78, h79, h80, h81, h82, h83, h84, h98, h99]
                          try rfl
                  · simp only [D, DT, reduceIte, reduceCtorEq, Nat.reduceEqDiff, Nat.reduceAdd, Nat.reduceLT, Nat.reduceLeDiff, Nat.reduceBEq, Int.reduceLE, Int.reduceLT, Int.reduceEq, Int.reduceNeg, c1, h2, h4, g1_71_77, k1_71_77, h78, h79, h80, h81, h82, h83]
                    try rfl
                · simp only [D, DT, reduceIte, reduceCtorEq, Nat.reduceEqDiff, Nat.reduceAdd, Nat.reduceLT, Nat.reduceLeDiff, Nat.reduceBEq, Int.reduceLE, Int.reduceLT, Int.reduceEq, Int.reduceNeg, c1, h2, h4, g1_71_77, k1_71_77, h78, h79, h80, h81, h82]
                  try rfl
              · simp only [D, DT, reduceIte, reduceCtorEq, Nat.reduceEqDiff, Nat.reduceAdd, Nat.reduceLT, Nat.reduceLeDiff, Nat.reduceBEq, Int.reduceLE, Int.reduceLT, Int.reduceEq, Int.reduceNeg, c1, h2, h4, g1_71_77, k1_71_77, h78, h79, h80, h81]
                try rfl
            · simp only [D, DT, reduceIte, reduceCtorEq, Nat.reduceEqDiff, Nat.reduceAdd, Nat.reduceLT, Nat.reduceLeDiff, Nat.reduceBEq, Int.reduceLE, Int.reduceLT, Int.reduceEq, Int.reduceNeg, c1, h2, h4, g1_71_77, k1_71_77, h78, h79, h80]
              try rfl
          · simp only [D, DT, reduceIte, reduceCtorEq, Nat.reduceEqDiff, Nat.reduceAdd, Nat.reduceLT, Nat.reduceLeDiff, Nat.reduceBEq, Int.reduceLE, Int.reduceLT, Int.reduceEq, Int.reduceNeg, c1, h2, h4, g1_71_77, k1_71_77, h78, h79]
            try rfl
        · simp only [D, DT, reduceIte, reduceCtorEq, Nat.reduceEqDiff, Nat.reduceAdd, Nat.reduceLT, Nat.reduceLeDiff, Nat.reduceBEq, Int.reduceLE, Int.reduceLT, Int.reduceEq, Int.reduceNeg, c1, h2, h4, g1_71_77, k1_71_77, h78]
          try rfl
      · intro e_112 H_112 g2_72_112
        simp only [D, DT, reduceIte, reduceCtorEq, Nat.reduceEqDiff, Nat.reduceAdd, Nat.reduceLT, Nat.reduceLeDiff, Nat.reduceBEq, Int.reduceLE, Int.reduceLT, Int.reduceEq, Int.reduceNeg, mandolineref14_Right.a1, c1, h2, h4, g2_72_112]
        try rfl
      exact mb _ _ _
end Go.Proofs.YtkmefgabcdocpaaDoor
