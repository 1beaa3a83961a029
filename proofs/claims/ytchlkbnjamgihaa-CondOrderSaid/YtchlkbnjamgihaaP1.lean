/-
  Plain functions: cond_None, mandolineref08_Few, mandolinelaw08_awake, mandolinelaw08_CondChecks, mandolinelaw08_CondOrder, mandolinelaw08_CondStrict. Its conditions: none.
-/
import Derived.Test.YtchlkbnjamgihaaP0
namespace Go.Proofs.Ytchlkbnjamgihaa
open Go Go.Den
set_option maxRecDepth 100000
set_option linter.unusedSimpArgs false
set_option linter.unusedVariables false
noncomputable def cond_None.f : Option api_Cond :=
  some (api_Cond.mk [] [] false false (-1) (-1) [] false)
set_option maxHeartbeats 4000000 in
theorem cond_None.ok : ansL X 11 [] = Option.map api_Cond.enc (cond_None.f) := by
  rw [ansL_run (fd := c11) rfl rfl]
  simp only [D, DT, reduceIte, reduceCtorEq, Nat.reduceEqDiff, Nat.reduceAdd, Nat.reduceLT, Nat.reduceLeDiff, Nat.reduceBEq, Int.reduceLE, Int.reduceLT, Int.reduceEq, Int.reduceNeg, c11, cond_None.f]
  try rfl
inductive mandolineref08_Few.l0X where
  | x0 (v40_3 : Int)
  | ret
inductive mandolineref08_Few.l1X where
  | x2 (v57_3 : Int)
  | ret
noncomputable def mandolineref08_Few.l1B (x44 : (List api_Tag)) (v52_3 : Int) (v52_27 : Int) : Option (Step (Int × Int) mandolineref08_Few.l1X) :=
  bif (decide (v52_27 < (x44.length : Int))) then
    (idx x44 v52_27).bind fun x61 =>
    bif (decide ((400 : Int) < (x61.Text.length : Int))) then
      some (.done (.ret))
    else
      some (.next ((IntKind.i64.wrap (v52_3 + (x61.Text.length : Int))), (IntKind.i64.wrap (v52_27 + 1))))
  else
    some (.done (.x2 v52_3))
set_option maxHeartbeats 4000000 in
theorem mandolineref08_Few.l1_ok {α : Type} {F : Env → Heap → Option α} {K : List Fr} (fin : mandolineref08_Few.l1X → Option α) (v20_18 : Int) (x44 : (List api_Tag)) (a0 : api_Cond)
    (hx2 : ∀ (v57_3 : Int) (e : Env) (H : Heap), e 3 = (.int .i64 v57_3) → e 16 = (.own [16] 1 0 2) → e 17 = (.int .i64 2) → e 18 = (.int .i64 v20_18) → H [16] = (1, some ⟨false, true, 1, encL encS_api_Tag ([a0.Match, a0.None] : List (List api_Tag))⟩) → outL X [] F K e H 2 = fin (.x2 v57_3))
    (hret : ∀ (e : Env) (H : Heap), e 2 = (.bool false) → F e H = fin (.ret)) (v52_3 : Int) (v52_27 : Int) (e : Env) (H : Heap) (g3_52 : e 3 = (.int .i64 v52_3)) (g16_52 : e 16 = (.own [16] 1 0 2)) (g17_52 : e 17 = (.int .i64 2)) (g18_52 : e 18 = (.int .i64 v20_18)) (g25_52 : e 25 = (.sl (encL api_Tag.enc x44))) (g26_52 : e 26 = (.int .i64 (x44.length : Int))) (g27_52 : e 27 = (.int .i64 v52_27)) (k16_52 : H [16] = (1, some ⟨false, true, 1, encL encS_api_Tag ([a0.Match, a0.None] : List (List api_Tag))⟩)) :
    runL X [] F (.c (.loop c6_l0) :: K) e H = (loopL (fun (s : Int × Int) => mandolineref08_Few.l1B x44 s.1 s.2) (v52_3, v52_27)).bind fin := by
  refine loop_of (R := fun (s : Int × Int) (e : Env) (H : Heap) => (fun (v52_3 : Int) (v52_27 : Int) => e 3 = (.int .i64 v52_3) ∧ e 16 = (.own [16] 1 0 2) ∧ e 17 = (.int .i64 2) ∧ e 18 = (.int .i64 v20_18) ∧ e 25 = (.sl (encL api_Tag.enc x44)) ∧ e 26 = (.int .i64 (x44.length : Int)) ∧ e 27 = (.int .i64 v52_27) ∧ H [16] = (1, some ⟨false, true, 1, encL encS_api_Tag ([a0.Match, a0.None] : List (List api_Tag))⟩)) s.1 s.2) fin ?_ ⟨g3_52, g16_52, g17_52, g18_52, g25_52, g26_52, g27_52, k16_52⟩
  clear k16_52 g27_52 g26_52 g25_52 g18_52 g17_52 g16_52 g3_52 e H v52_27 v52_3
  intro n G hn hd s e H hR
  obtain ⟨v52_3, v52_27⟩ := s
  obtain ⟨g3_52, g16_52, g17_52, g18_52, g25_52, g26_52, g27_52, k16_52⟩ := hR
  simp only [D, DT, reduceIte, reduceCtorEq, Nat.reduceEqDiff, Nat.reduceAdd, Nat.reduceLT, Nat.reduceLeDiff, Nat.reduceBEq, Int.reduceLE, Int.reduceLT, Int.reduceEq, Int.reduceNeg, mandolineref08_Few.l1B, g3_52, g16_52, g17_52, g18_52, g25_52, g26_52, g27_52, k16_52, c6_l0]
  cases h59 : (decide (v52_27 < (x44.length : Int)))
  · simp only [D, DT, reduceIte, reduceCtorEq, Nat.reduceEqDiff, Nat.reduceAdd, Nat.reduceLT, Nat.reduceLeDiff, Nat.reduceBEq, Int.reduceLE, Int.reduceLT, Int.reduceEq, Int.reduceNeg, g3_52, g16_52, g17_52, g18_52, g25_52, g26_52, g27_52, k16_52, c6_l0, h59]
    exact (hx2 v52_3 _ _ (by first | (simp only [D, DT, reduceIte, reduceCtorEq, Nat.reduceEqDiff, Nat.reduceAdd, Nat.reduceLT, Nat.reduceLeDiff, Nat.reduceBEq, Int.reduceLE, Int.reduceLT, Int.reduceEq, Int.reduceNeg, g3_52, g16_52, g17_52, g18_52, g25_52, g26_52, g27_52, k16_52, c6_l0, h59] <;> rfl) | rfl) (by first | (simp only [D, DT, reduceIte, reduceCtorEq, Nat.reduceEqDiff, Nat.reduceAdd, Nat.reduceLT, Nat.reduceLeDiff, Nat.reduceBEq, Int.reduceLE, Int.reduceLT, Int.reduceEq, Int.reduceNeg, g3_52, g16_52, g17_52, g18_52, g25_52, g26_52, g27_52, k16_52, c6_l0, h59] <;> rfl) | rfl) (by first | (simp only [D, DT, reduceIte, reduceCtorEq, Nat.reduceEqDiff, Nat.reduceAdd, Nat.reduceLT, Nat.reduceLeDiff, Nat.reduceBEq, Int.reduceLE, Int.reduceLT, Int.reduceEq, Int.reduceNeg, g3_52, g16_52, g17_52, g18_52, g25_52, g26_52, g27_52, k16_52, c6_l0, h59] <;> rfl) | rfl) (by first | (simp only [D, DT, reduceIte, reduceCtorEq, Nat.reduceEqDiff, Nat.reduceAdd, Nat.reduceLT, Nat.reduceLeDiff, Nat.reduceBEq, Int.reduceLE, Int.reduceLT, Int.reduceEq, Int.reduceNeg, g3_52, g16_52, g17_52, g18_52, g25_52, g26_52, g27_52, k16_52, c6_l0, h59] <;> rfl) | rfl) (by first | (simp only [D, DT, reduceIte, reduceCtorEq, Nat.reduceEqDiff, Nat.reduceAdd, Nat.reduceLT, Nat.reduceLeDiff, Nat.reduceBEq, Int.reduceLE, Int.reduceLT, Int.reduceEq, Int.reduceNeg, g3_52, g16_52, g17_52, g18_52, g25_52, g26_52, g27_52, k16_52, c6_l0, h59] <;> rfl) | rfl)).trans (hd _).symm
  · simp only [D, DT, reduceIte, reduceCtorEq, Nat.reduceEqDiff, Nat.reduceAdd, Nat.reduceLT, Nat.reduceLeDiff, Nat.reduceBEq, Int.reduceLE, Int.reduceLT, Int.reduceEq, Int.reduceNeg, g3_52, g16_52, g17_52, g18_52, g25_52, g26_52, g27_52, k16_52, c6_l0, h59]
    rcases h60 : idx x44 v52_27 with _ | x61
    · simp only [D, DT, reduceIte, reduceCtorEq, Nat.reduceEqDiff, Nat.reduceAdd, Nat.reduceLT, Nat.reduceLeDiff, Nat.reduceBEq, Int.reduceLE, Int.reduceLT, Int.reduceEq, Int.reduceNeg, g3_52, g16_52, g17_52, g18_52, g25_52, g26_52, g27_52, k16_52, c6_l0, h59, h60]
    · simp only [D, DT, reduceIte, reduceCtorEq, Nat.reduceEqDiff, Nat.reduceAdd, Nat.reduceLT, Nat.reduceLeDiff, Nat.reduceBEq, Int.reduceLE, Int.reduceLT, Int.reduceEq, Int.reduceNeg, g3_52, g16_52, g17_52, g18_52, g25_52, g26_52, g27_52, k16_52, c6_l0, h59, h60]
      cases h62 : (decide ((400 : Int) < (x61.Text.length : Int)))
      · simp only [D, DT, reduceIte, reduceCtorEq, Nat.reduceEqDiff, Nat.reduceAdd, Nat.reduceLT, Nat.reduceLeDiff, Nat.reduceBEq, Int.reduceLE, Int.reduceLT, Int.reduceEq, Int.reduceNeg, g3_52, g16_52, g17_52, g18_52, g25_52, g26_52, g27_52, k16_52, c6_l0, h59, h60, h62]
        exact hn _ _ _ ⟨(by first | (simp only [D, DT, reduceIte, reduceCtorEq, Nat.reduceEqDiff, Nat.reduceAdd, Nat.reduceLT, Nat.reduceLeDiff, Nat.reduceBEq, Int.reduceLE, Int.reduceLT, Int.reduceEq, Int.reduceNeg, g3_52, g16_52, g17_52, g18_52, g25_52, g26_52, g27_52, k16_52, c6_l0, h59, h60, h62] <;> rfl) | rfl), (by first | (simp only [D, DT, reduceIte, reduceCtorEq, Nat.reduceEqDiff, Nat.reduceAdd, Nat.reduceLT, Nat.reduceLeDiff, Nat.reduceBEq, Int.reduceLE, Int.reduceLT, Int.reduceEq, Int.reduceNeg, g3_52, g16_52, g17_52, g18_52, g25_52, g26_52, g27_52, k16_52, c6_l0, h59, h60, h62] <;> rfl) | rfl), (by first | (simp only [D, DT, reduceIte, reduceCtorEq, Nat.reduceEqDiff, Nat.reduceAdd, Nat.reduceLT, Nat.reduceLeDiff, Nat.reduceBEq, Int.reduceLE, Int.reduceLT, Int.reduceEq, Int.reduceNeg, g3_52, g16_52, g17_52, g18_52, g25_52, g26_52, g27_52, k16_52, c6_l0, h59, h60, h62] <;> rfl) | rfl), (by first | (simp only [D, DT, reduceIte, reduceCtorEq, Nat.reduceEqDiff, Nat.reduceAdd, Nat.reduceLT, Nat.reduceLeDiff, Nat.reduceBEq, Int.reduceLE, Int.reduceLT, Int.reduceEq, Int.reduceNeg, g3_52, g16_52, g17_52, g18_52, g25_52, g26_52, g27_52, k16_52, c6_l0, h59, h60, h62] <;> rfl) | rfl), (by first | (simp only [D, DT, reduceIte, reduceCtorEq, Nat.reduceEqDiff, Nat.reduceAdd, Nat.reduceLT, Nat.reduceLeDiff, Nat.reduceBEq, Int.reduceLE, Int.reduceLT, Int.reduceEq, Int.reduceNeg, g3_52, g16_52, g17_52, g18_52, g25_52, g26_52, g27_52, k16_52, c6_l0, h59, h60, h62] <;> rfl) | rfl), (by first | (simp only [D, DT, reduceIte, reduceCtorEq, Nat.reduceEqDiff, Nat.reduceAdd, Nat.reduceLT, Nat.reduceLeDiff, Nat.reduceBEq, Int.reduceLE, Int.reduceLT, Int.reduceEq, Int.reduceNeg, g3_52, g16_52, g17_52, g18_52, g25_52, g26_52, g27_52, k16_52, c6_l0, h59, h60, h62] <;> rfl) | rfl), (by first | (simp only [D, DT, reduceIte, reduceCtorEq, Nat.reduceEqDiff, Nat.reduceAdd, Nat.reduceLT, Nat.reduceLeDiff, Nat.reduceBEq, Int.reduceLE, Int.reduceLT, Int.reduceEq, Int.reduceNeg, g3_52, g16_52, g17_52, g18_52, g25_52, g26_52, g27_52, k16_52, c6_l0, h59, h60, h62] <;> rfl) | rfl), (by first | (simp only [D, DT, reduceIte, reduceCtorEq, Nat.reduceEqDiff, Nat.reduceAdd, Nat.reduceLT, Nat.reduceLeDiff, Nat.reduceBEq, Int.reduceLE, Int.reduceLT, Int.reduceEq, Int.reduceNeg, g3_52, g16_52, g17_52, g18_52, g25_52, g26_52, g27_52, k16_52, c6_l0, h59, h60, h62] <;> rfl) | rfl)⟩
      · simp only [D, DT, reduceIte, reduceCtorEq, Nat.reduceEqDiff, Nat.reduceAdd, Nat.reduceLT, Nat.reduceLeDiff, Nat.reduceBEq, Int.reduceLE, Int.reduceLT, Int.reduceEq, Int.reduceNeg, g3_52, g16_52, g17_52, g18_52, g25_52, g26_52, g27_52, k16_52, c6_l0, h59, h60, h62]
        exact (hret _ _ (by first | (simp only [D, DT, reduceIte, reduceCtorEq, Nat.reduceEqDiff, Nat.reduceAdd, Nat.reduceLT, Nat.reduceLeDiff, Nat.reduceBEq, Int.reduceLE, Int.reduceLT, Int.reduceEq, Int.reduceNeg, g3_52, g16_52, g17_52, g18_52, g25_52, g26_52, g27_52, k16_52, c6_l0, h59, h60, h62] <;> rfl) | rfl)).trans (hd _).symm
noncomputable def mandolineref08_Few.a1 (v20_18 : Int) : mandolineref08_Few.l1X → Option (Step (Int × Int) mandolineref08_Few.l0X)
  | .x2 v57_3 =>
    some (.next (v57_3, (IntKind.i64.wrap (v20_18 + 1))))
  | .ret =>
    some (.done (.ret))
noncomputable def mandolineref08_Few.l0B (a0 : api_Cond) (v20_3 : Int) (v20_18 : Int) : Option (Step (Int × Int) mandolineref08_Few.l0X) :=
  bif (decide (v20_18 < 2)) then
    (idx ([a0.Match, a0.None] : List (List api_Tag)) v20_18).bind fun x44 =>
    bif (decide ((40 : Int) < (x44.length : Int))) then
      some (.done (.ret))
    else
      (loopL (fun (s : Int × Int) => mandolineref08_Few.l1B x44 s.1 s.2) (v20_3, 0)).bind (mandolineref08_Few.a1 v20_18)
  else
    some (.done (.x0 v20_3))
set_option maxHeartbeats 4000000 in
theorem mandolineref08_Few.l0_ok {α : Type} {F : Env → Heap → Option α} {K : List Fr} (fin : mandolineref08_Few.l0X → Option α) (a0 : api_Cond)
    (hx0 : ∀ (v40_3 : Int) (e : Env) (H : Heap), e 3 = (.int .i64 v40_3) → outL X [] F K e H 0 = fin (.x0 v40_3))
    (hret : ∀ (e : Env) (H : Heap), e 2 = (.bool false) → F e H = fin (.ret)) (v20_3 : Int) (v20_18 : Int) (e : Env) (H : Heap) (g3_20 : e 3 = (.int .i64 v20_3)) (g16_20 : e 16 = (.own [16] 1 0 2)) (g17_20 : e 17 = (.int .i64 2)) (g18_20 : e 18 = (.int .i64 v20_18)) (k16_20 : H [16] = (1, some ⟨false, true, 1, encL encS_api_Tag ([a0.Match, a0.None] : List (List api_Tag))⟩)) :
    runL X [] F (.c (.loop c6_l1) :: K) e H = (loopL (fun (s : Int × Int) => mandolineref08_Few.l0B a0 s.1 s.2) (v20_3, v20_18)).bind fin := by
  refine loop_of (R := fun (s : Int × Int) (e : Env) (H : Heap) => (fun (v20_3 : Int) (v20_18 : Int) => e 3 = (.int .i64 v20_3) ∧ e 16 = (.own [16] 1 0 2) ∧ e 17 = (.int .i64 2) ∧ e 18 = (.int .i64 v20_18) ∧ H [16] = (1, some ⟨false, true, 1, encL encS_api_Tag ([a0.Match, a0.None] : List (List api_Tag))⟩)) s.1 s.2) fin ?_ ⟨g3_20, g16_20, g17_20, g18_20, k16_20⟩
  clear k16_20 g18_20 g17_20 g16_20 g3_20 e H v20_18 v20_3
  intro n G hn hd s e H hR
  obtain ⟨v20_3, v20_18⟩ := s
  obtain ⟨g3_20, g16_20, g17_20, g18_20, k16_20⟩ := hR
  simp only [D, DT, reduceIte, reduceCtorEq, Nat.reduceEqDiff, Nat.reduceAdd, Nat.reduceLT, Nat.reduceLeDiff, Nat.reduceBEq, Int.reduceLE, Int.reduceLT, Int.reduceEq, Int.reduceNeg, mandolineref08_Few.l0B, g3_20, g16_20, g17_20, g18_20, k16_20, c6_l1]
  cases h42 : (decide (v20_18 < 2))
  · simp only [D, DT, reduceIte, reduceCtorEq, Nat.reduceEqDiff, Nat.reduceAdd, Nat.reduceLT, Nat.reduceLeDiff, Nat.reduceBEq, Int.reduceLE, Int.reduceLT, Int.reduceEq, Int.reduceNeg, g3_20, g16_20, g17_20, g18_20, k16_20, c6_l1, h42]
    exact (hx0 v20_3 _ _ (by first | (simp only [D, DT, reduceIte, reduceCtorEq, Nat.reduceEqDiff, Nat.reduceAdd, Nat.reduceLT, Nat.reduceLeDiff, Nat.reduceBEq, Int.reduceLE, Int.reduceLT, Int.reduceEq, Int.reduceNeg, g3_20, g16_20, g17_20, g18_20, k16_20, c6_l1, h42] <;> rfl) | rfl)).trans (hd _).symm
  · simp only [D, DT, reduceIte, reduceCtorEq, Nat.reduceEqDiff, Nat.reduceAdd, Nat.reduceLT, Nat.reduceLeDiff, Nat.reduceBEq, Int.reduceLE, Int.reduceLT, Int.reduceEq, Int.reduceNeg, g3_20, g16_20, g17_20, g18_20, k16_20, c6_l1, h42]
    have o45 := fun (HH : Heap) (q : HH [16] = H [16]) => own_at (sz := 1) (f := encS_api_Tag) (out := ([a0.Match, a0.None] : List (List api_Tag))) (kk := .i64) (i := v20_18) (n := 2) (HH := HH) (H0 := H) (key := [16]) (ver := 1) (by first | (simp only [D, DT, reduceIte, reduceCtorEq, Nat.reduceEqDiff, Nat.reduceAdd, Nat.reduceLT, Nat.reduceLeDiff, Nat.reduceBEq, Int.reduceLE, Int.reduceLT, Int.reduceEq, Int.reduceNeg, g3_20, g16_20, g17_20, g18_20, k16_20, c6_l1, h42] <;> rfl) | rfl) q rfl
    rcases h43 : idx ([a0.Match, a0.None] : List (List api_Tag)) v20_18 with _ | x44
    · simp only [D, DT, reduceIte, reduceCtorEq, Nat.reduceEqDiff, Nat.reduceAdd, Nat.reduceLT, Nat.reduceLeDiff, Nat.reduceBEq, Int.reduceLE, Int.reduceLT, Int.reduceEq, Int.reduceNeg, g3_20, g16_20, g17_20, g18_20, k16_20, c6_l1, h42, h43, o45]
    · have hx44 := (idx_some h43).2.2
      simp only [D, DT, reduceIte, reduceCtorEq, Nat.reduceEqDiff, Nat.reduceAdd, Nat.reduceLT, Nat.reduceLeDiff, Nat.reduceBEq, Int.reduceLE, Int.reduceLT, Int.reduceEq, Int.reduceNeg, g3_20, g16_20, g17_20, g18_20, k16_20, c6_l1, h42, h43, o45, hx44]
      cases h46 : (decide ((40 : Int) < (x44.length : Int)))
      · simp only [D, DT, reduceIte, reduceCtorEq, Nat.reduceEqDiff, Nat.reduceAdd, Nat.reduceLT, Nat.reduceLeDiff, Nat.reduceBEq, Int.reduceLE, Int.reduceLT, Int.reduceEq, Int.reduceNeg, g3_20, g16_20, g17_20, g18_20, k16_20, c6_l1, h42, h43, o45, hx44, h46]
        refine Eq.trans (mandolineref08_Few.l1_ok (fun x => (mandolineref08_Few.a1 v20_18 x).bind G) v20_18 x44 a0 ?_ ?_ v20_3 0 _ _ (by first | (simp only [D, DT, reduceIte, reduceCtorEq, Nat.reduceEqDiff, Nat.reduceAdd, Nat.reduceLT, Nat.reduceLeDiff, Nat.reduceBEq, Int.reduceLE, Int.reduceLT, Int.reduceEq, Int.reduceNeg, g3_20, g16_20, g17_20, g18_20, k16_20, c6_l1, h42, h43, o45, hx44, h46] <;> rfl) | rfl) (by first | (simp only [D, DT, reduceIte, reduceCtorEq, Nat.reduceEqDiff, Nat.reduceAdd, Nat.reduceLT, Nat.reduceLeDiff, Nat.reduceBEq, Int.reduceLE, Int.reduceLT, Int.reduceEq, Int.reduceNeg, g3_20, g16_20, g17_20, g18_20, k16_20, c6_l1, h42, h43, o45, hx44, h46] <;> rfl) | rfl) (by first | (simp only [D, DT, reduceIte, reduceCtorEq, Nat.reduceEqDiff, Nat.reduceAdd, Nat.reduceLT, Nat.reduceLeDiff, Nat.reduceBEq, Int.reduceLE, Int.reduceLT, Int.reduceEq, Int.reduceNeg, g3_20, g16_20, g17_20, g18_20, k16_20, c6_l1, h42, h43, o45, hx44, h46] <;> rfl) | rfl) (by first | (simp only [D, DT, reduceIte, reduceCtorEq, Nat.reduceEqDiff, Nat.reduceAdd, Nat.reduceLT, Nat.reduceLeDiff, Nat.reduceBEq, Int.reduceLE, Int.reduceLT, Int.reduceEq, Int.reduceNeg, g3_20, g16_20, g17_20, g18_20, k16_20, c6_l1, h42, h43, o45, hx44, h46] <;> rfl) | rfl) (by first | (simp only [D, DT, reduceIte, reduceCtorEq, Nat.reduceEqDiff, Nat.reduceAdd, Nat.reduceLT, Nat.reduceLeDiff, Nat.reduceBEq, Int.reduceLE, Int.reduceLT, Int.reduceEq, Int.reduceNeg, g3_20, g16_20, g17_20, g18_20, k16_20, c6_l1, h42, h43, o45, hx44, h46] <;> rfl) | rfl) (by first | (simp only [D, DT, reduceIte, reduceCtorEq, Nat.reduceEqDiff, Nat.reduceAdd, Nat.reduceLT, Nat.reduceLeDiff, Nat.reduceBEq, Int.reduceLE, Int.reduceLT, Int.reduceEq, Int.reduceNeg, g3_20, g16_20, g17_20, g18_20, k16_20, c6_l1, h42, h43, o45, hx44, h46] <;> rfl) | rfl) (by first | (simp only [D, DT, reduceIte, reduceCtorEq, Nat.reduceEqDiff, Nat.reduceAdd, Nat.reduceLT, Nat.reduceLeDiff, Nat.reduceBEq, Int.reduceLE, Int.reduceLT, Int.reduceEq, Int.reduceNeg, g3_20, g16_20, g17_20, g18_20, k16_20, c6_l1, h42, h43, o45, hx44, h46] <;> rfl) | rfl) (by first | (simp only [D, DT, reduceIte, reduceCtorEq, Nat.reduceEqDiff, Nat.reduceAdd, Nat.reduceLT, Nat.reduceLeDiff, Nat.reduceBEq, Int.reduceLE, Int.reduceLT, Int.reduceEq, Int.reduceNeg, g3_20, g16_20, g17_20, g18_20, k16_20, c6_l1, h42, h43, o45, hx44, h46] <;> rfl) | rfl)) ?_
        · intro v57_3 e_63 H_63 g3_57_63 g16_57_63 g17_57_63 g18_57_63 k16_57_63
          simp only [D, DT, reduceIte, reduceCtorEq, Nat.reduceEqDiff, Nat.reduceAdd, Nat.reduceLT, Nat.reduceLeDiff, Nat.reduceBEq, Int.reduceLE, Int.reduceLT, Int.reduceEq, Int.reduceNeg, mandolineref08_Few.a1, g3_20, g16_20, g17_20, g18_20, k16_20, c6_l1, h42, h43, o45, hx44, h46, g3_57_63, g16_57_63, g17_57_63, g18_57_63, k16_57_63]
          exact hn _ _ _ ⟨(by first | (simp only [D, DT, reduceIte, reduceCtorEq, Nat.reduceEqDiff, Nat.reduceAdd, Nat.reduceLT, Nat.reduceLeDiff, Nat.reduceBEq, Int.reduceLE, Int.reduceLT, Int.reduceEq, Int.reduceNeg, g3_20, g16_20, g17_20, g18_20, k16_20, c6_l1, h42, h43, o45, hx44, h46, g3_57_63, g16_57_63, g17_57_63, g18_57_63, k16_57_63] <;> rfl) | rfl), (by first | (simp only [D, DT, reduceIte, reduceCtorEq, Nat.reduceEqDiff, Nat.reduceAdd, Nat.reduceLT, Nat.reduceLeDiff, Nat.reduceBEq, Int.reduceLE, Int.reduceLT, Int.reduceEq, Int.reduceNeg, g3_20, g16_20, g17_20, g18_20, k16_20, c6_l1, h42, h43, o45, hx44, h46, g3_57_63, g16_57_63, g17_57_63, g18_57_63, k16_57_63] <;> rfl) | rfl), (by first | (simp only [D, DT, reduceIte, reduceCtorEq, Nat.reduceEqDiff, Nat.reduceAdd, Nat.reduceLT, Nat.reduceLeDiff, Nat.reduceBEq, Int.reduceLE, Int.reduceLT, Int.reduceEq, Int.reduceNeg, g3_20, g16_20, g17_20, g18_20, k16_20, c6_l1, h42, h43, o45, hx44, h46, g3_57_63, g16_57_63, g17_57_63, g18_57_63, k16_57_63] <;> rfl) | rfl), (by first | (simp only [D, DT, reduceIte, reduceCtorEq, Nat.reduceEqDiff, Nat.reduceAdd, Nat.reduceLT, Nat.reduceLeDiff, Nat.reduceBEq, Int.reduceLE, Int.reduceLT, Int.reduceEq, Int.reduceNeg, g3_20, g16_20, g17_20, g18_20, k16_20, c6_l1, h42, h43, o45, hx44, h46, g3_57_63, g16_57_63, g17_57_63, g18_57_63, k16_57_63] <;> rfl) | rfl), (by first | (simp only [D, DT, reduceIte, reduceCtorEq, Nat.reduceEqDiff, Nat.reduceAdd, Nat.reduceLT, Nat.reduceLeDiff, Nat.reduceBEq, Int.reduceLE, Int.reduceLT, Int.reduceEq, Int.reduceNeg, g3_20, g16_20, g17_20, g18_20, k16_20, c6_l1, h42, h43, o45, hx44, h46, g3_57_63, g16_57_63, g17_57_63, g18_57_63, k16_57_63] <;> rfl) | rfl)⟩
        · intro e_64 H_64 g2_58_64
          simp only [D, DT, reduceIte, reduceCtorEq, Nat.reduceEqDiff, Nat.reduceAdd, Nat.reduceLT, Nat.reduceLeDiff, Nat.reduceBEq, Int.reduceLE, Int.reduceLT, Int.reduceEq, Int.reduceNeg, mandolineref08_Few.a1, g3_20, g16_20, g17_20, g18_20, k16_20, c6_l1, h42, h43, o45, hx44, h46, g2_58_64]
          exact (hret _ _ (by first | (simp only [D, DT, reduceIte, reduceCtorEq, Nat.reduceEqDiff, Nat.reduceAdd, Nat.reduceLT, Nat.reduceLeDiff, Nat.reduceBEq, Int.reduceLE, Int.reduceLT, Int.reduceEq, Int.reduceNeg, g3_20, g16_20, g17_20, g18_20, k16_20, c6_l1, h42, h43, o45, hx44, h46, g2_58_64] <;> rfl) | rfl)).trans (hd _).symm
        exact bb _ _ _
      · simp only [D, DT, reduceIte, reduceCtorEq, Nat.reduceEqDiff, Nat.reduceAdd, Nat.reduceLT, Nat.reduceLeDiff, Nat.reduceBEq, Int.reduceLE, Int.reduceLT, Int.reduceEq, Int.reduceNeg, g3_20, g16_20, g17_20, g18_20, k16_20, c6_l1, h42, h43, o45, hx44, h46]
        exact (hret _ _ (by first | (simp only [D, DT, reduceIte, reduceCtorEq, Nat.reduceEqDiff, Nat.reduceAdd, Nat.reduceLT, Nat.reduceLeDiff, Nat.reduceBEq, Int.reduceLE, Int.reduceLT, Int.reduceEq, Int.reduceNeg, g3_20, g16_20, g17_20, g18_20, k16_20, c6_l1, h42, h43, o45, hx44, h46] <;> rfl) | rfl)).trans (hd _).symm
noncomputable def mandolineref08_Few.a0 : mandolineref08_Few.l0X → Option Bool
  | .x0 v40_3 =>
    some (decide (v40_3 ≤ 400))
  | .ret =>
    some false
noncomputable def mandolineref08_Few.f (a0 : api_Cond) : Option Bool :=
  (loopL (fun (s : Int × Int) => mandolineref08_Few.l0B a0 s.1 s.2) ((a0.Range_Text.length : Int), 0)).bind (mandolineref08_Few.a0)
set_option maxHeartbeats 4000000 in
theorem mandolineref08_Few.ok (a0 : api_Cond) : ansL X 6 [(.agg [(.sl (encL api_Tag.enc a0.Match)), (.sl (encL api_Tag.enc a0.None)), (.bool a0.AnyMatch), (.bool a0.AnyNone), (.int .i64 a0.Since), (.int .i64 a0.Unless), (.str a0.Range_Text), (.bool a0.Range_Weak)])] = Option.map AV.bool (mandolineref08_Few.f a0) := by
  rw [ansL_run (fd := c6) rfl rfl]
  simp only [D, DT, reduceIte, reduceCtorEq, Nat.reduceEqDiff, Nat.reduceAdd, Nat.reduceLT, Nat.reduceLeDiff, Nat.reduceBEq, Int.reduceLE, Int.reduceLT, Int.reduceEq, Int.reduceNeg, c6, mandolineref08_Few.f]
  refine Eq.trans (mandolineref08_Few.l0_ok (fun x => Option.map AV.bool (mandolineref08_Few.a0 x)) a0 ?_ ?_ (a0.Range_Text.length : Int) 0 _ _ (by first | (simp only [D, DT, reduceIte, reduceCtorEq, Nat.reduceEqDiff, Nat.reduceAdd, Nat.reduceLT, Nat.reduceLeDiff, Nat.reduceBEq, Int.reduceLE, Int.reduceLT, Int.reduceEq, Int.reduceNeg] <;> rfl) | rfl) (by first | (simp only [D, DT, reduceIte, reduceCtorEq, Nat.reduceEqDiff, Nat.reduceAdd, Nat.reduceLT, Nat.reduceLeDiff, Nat.reduceBEq, Int.reduceLE, Int.reduceLT, Int.reduceEq, Int.reduceNeg] <;> rfl) | rfl) (by first | (simp only [D, DT, reduceIte, reduceCtorEq, Nat.reduceEqDiff, Nat.reduceAdd, Nat.reduceLT, Nat.reduceLeDiff, Nat.reduceBEq, Int.reduceLE, Int.reduceLT, Int.reduceEq, Int.reduceNeg] <;> rfl) | rfl) (by first | (simp only [D, DT, reduceIte, reduceCtorEq, Nat.reduceEqDiff, Nat.reduceAdd, Nat.reduceLT, Nat.reduceLeDiff, Nat.reduceBEq, Int.reduceLE, Int.reduceLT, Int.reduceEq, Int.reduceNeg] <;> rfl) | rfl) (by first | (simp only [D, DT, reduceIte, reduceCtorEq, Nat.reduceEqDiff, Nat.reduceAdd, Nat.reduceLT, Nat.reduceLeDiff, Nat.reduceBEq, Int.reduceLE, Int.reduceLT, Int.reduceEq, Int.reduceNeg] <;> rfl) | rfl)) ?_
  · intro v40_3 e_65 H_65 g3_40_65
    simp only [D, DT, reduceIte, reduceCtorEq, Nat.reduceEqDiff, Nat.reduceAdd, Nat.reduceLT, Nat.reduceLeDiff, Nat.reduceBEq, Int.reduceLE, Int.reduceLT, Int.reduceEq, Int.reduceNeg, mandolineref08_Few.a0, g3_40_65]
    try rfl
  · intro e_66 H_66 g2_41_66
    simp only [D, DT, reduceIte, reduceCtorEq, Nat.reduceEqDiff, Nat.reduceAdd, Nat.reduceLT, Nat.reduceLeDiff, Nat.reduceBEq, Int.reduceLE, Int.reduceLT, Int.reduceEq, Int.reduceNeg, mandolineref08_Few.a0, g2_41_66]
    try rfl
  exact mb _ _ _
noncomputable def mandolinelaw08_awake.f : Option Bool :=
  (cond_None.f).bind fun x3 =>
  (cond_Check.f (api_Request.mk false [47, 97] [] x3.Match x3.None x3.AnyMatch x3.AnyNone x3.Since x3.Unless x3.Range_Text x3.Range_Weak) (api_Meta.mk [97] false (-1) 5 0 0 0 0 [] [] false) true).bind fun x6 =>
  bif (decide (x6 = 1)) then
    (cond_Check.f (api_Request.mk false [47, 97] [] x3.Match [(api_Tag.mk [97] true)] x3.AnyMatch x3.AnyNone x3.Since x3.Unless x3.Range_Text x3.Range_Weak) (api_Meta.mk [97] false (-1) 5 0 0 0 0 [] [] false) true).bind fun x10 =>
    bif (decide (x10 = 3)) then
      (cond_Check.f (api_Request.mk false [47, 97] [(api_Spec.mk 1 (-1))] x3.Match [] x3.AnyMatch x3.AnyNone x3.Since x3.Unless [97] true) (api_Meta.mk [97] false (-1) 5 0 0 0 0 [] [] false) true).bind fun x14 =>
      some (decide (x14 = 2))
    else
      some false
  else
    some false
set_option maxHeartbeats 4000000 in
theorem mandolinelaw08_awake.ok : ansL X 7 [] = Option.map AV.bool (mandolinelaw08_awake.f) := by
  rw [ansL_run (fd := c7) rfl rfl]
  simp only [D, DT, reduceIte, reduceCtorEq, Nat.reduceEqDiff, Nat.reduceAdd, Nat.reduceLT, Nat.reduceLeDiff, Nat.reduceBEq, Int.reduceLE, Int.reduceLT, Int.reduceEq, Int.reduceNeg, c7, mandolinelaw08_awake.f]
  have c1 : ansL X 11 [] = Option.map api_Cond.enc (cond_None.f) := cond_None.ok
  rcases h2 : cond_None.f with _ | x3
  · simp only [D, DT, reduceIte, reduceCtorEq, Nat.reduceEqDiff, Nat.reduceAdd, Nat.reduceLT, Nat.reduceLeDiff, Nat.reduceBEq, Int.reduceLE, Int.reduceLT, Int.reduceEq, Int.reduceNeg, c1, h2]
  · simp only [D, DT, reduceIte, reduceCtorEq, Nat.reduceEqDiff, Nat.reduceAdd, Nat.reduceLT, Nat.reduceLeDiff, Nat.reduceBEq, Int.reduceLE, Int.reduceLT, Int.reduceEq, Int.reduceNeg, c1, h2]
    have c4 : ansL X 8 [(.agg [(.bool false), (.str [47, 97]), (.sl []), (.sl (encL api_Tag.enc x3.Match)), (.sl (encL api_Tag.enc x3.None)), (.bool x3.AnyMatch), (.bool x3.AnyNone), (.int .i64 x3.Since), (.int .i64 x3.Unless), (.str x3.Range_Text), (.bool x3.Range_Weak)]), (.agg [(.str [97]), (.bool false), (.int .i64 (-1)), (.int .i64 5), (.int .i64 0), (.int .i64 0), (.int .i64 0), (.int .i64 0), (.sl []), (.str []), (.bool false)]), (.bool true)] = Option.map (AV.int .i64) (cond_Check.f (api_Request.mk false [47, 97] [] x3.Match x3.None x3.AnyMatch x3.AnyNone x3.Since x3.Unless x3.Range_Text x3.Range_Weak) (api_Meta.mk [97] false (-1) 5 0 0 0 0 [] [] false) true) := cond_Check.ok (api_Request.mk false [47, 97] [] x3.Match x3.None x3.AnyMatch x3.AnyNone x3.Since x3.Unless x3.Range_Text x3.Range_Weak) (api_Meta.mk [97] false (-1) 5 0 0 0 0 [] [] false) true
    rcases h5 : cond_Check.f (api_Request.mk false [47, 97] [] x3.Match x3.None x3.AnyMatch x3.AnyNone x3.Since x3.Unless x3.Range_Text x3.Range_Weak) (api_Meta.mk [97] false (-1) 5 0 0 0 0 [] [] false) true with _ | x6
    · simp only [D, DT, reduceIte, reduceCtorEq, Nat.reduceEqDiff, Nat.reduceAdd, Nat.reduceLT, Nat.reduceLeDiff, Nat.reduceBEq, Int.reduceLE, Int.reduceLT, Int.reduceEq, Int.reduceNeg, c1, h2, c4, h5]
    · simp only [D, DT, reduceIte, reduceCtorEq, Nat.reduceEqDiff, Nat.reduceAdd, Nat.reduceLT, Nat.reduceLeDiff, Nat.reduceBEq, Int.reduceLE, Int.reduceLT, Int.reduceEq, Int.reduceNeg, c1, h2, c4, h5]
      cases h7 : (decide (x6 = 1))
      · simp only [D, DT, reduceIte, reduceCtorEq, Nat.reduceEqDiff, Nat.reduceAdd, Nat.reduceLT, Nat.reduceLeDiff, Nat.reduceBEq, Int.reduceLE, Int.reduceLT, Int.reduceEq, Int.reduceNeg, c1, h2, c4, h5, h7]
        try rfl
      · simp only [D, DT, reduceIte, reduceCtorEq, Nat.reduceEqDiff, Nat.reduceAdd, Nat.reduceLT, Nat.reduceLeDiff, Nat.reduceBEq, Int.reduceLE, Int.reduceLT, Int.reduceEq, Int.reduceNeg, c1, h2, c4, h5, h7]
        have c8 : ansL X 8 [(.agg [(.bool false), (.str [47, 97]), (.sl []), (.sl (encL api_Tag.enc x3.Match)), (.sl [(.agg [(.str [97]), (.bool true)])]), (.bool x3.AnyMatch), (.bool x3.AnyNone), (.int .i64 x3.Since), (.int .i64 x3.Unless), (.str x3.Range_Text), (.bool x3.Range_Weak)]), (.agg [(.str [97]), (.bool false), (.int .i64 (-1)), (.int .i64 5), (.int .i64 0), (.int .i64 0), (.int .i64 0), (.int .i64 0), (.sl []), (.str []), (.bool false)]), (.bool true)] = Option.map (AV.int .i64) (cond_Check.f (api_Request.mk false [47, 97] [] x3.Match [(api_Tag.mk [97] true)] x3.AnyMatch x3.AnyNone x3.Since x3.Unless x3.Range_Text x3.Range_Weak) (api_Meta.mk [97] false (-1) 5 0 0 0 0 [] [] false) true) := cond_Check.ok (api_Request.mk false [47, 97] [] x3.Match [(api_Tag.mk [97] true)] x3.AnyMatch x3.AnyNone x3.Since x3.Unless x3.Range_Text x3.Range_Weak) (api_Meta.mk [97] false (-1) 5 0 0 0 0 [] [] false) true
        rcases h9 : cond_Check.f (api_Request.mk false [47, 97] [] x3.Match [(api_Tag.mk [97] true)] x3.AnyMatch x3.AnyNone x3.Since x3.Unless x3.Range_Text x3.Range_Weak) (api_Meta.mk [97] false (-1) 5 0 0 0 0 [] [] false) true with _ | x10
        · simp only [D, DT, reduceIte, reduceCtorEq, Nat.reduceEqDiff, Nat.reduceAdd, Nat.reduceLT, Nat.reduceLeDiff, Nat.reduceBEq, Int.reduceLE, Int.reduceLT, Int.reduceEq, Int.reduceNeg, c1, h2, c4, h5, h7, c8, h9]
        · simp only [D, DT, reduceIte, reduceCtorEq, Nat.reduceEqDiff, Nat.reduceAdd, Nat.reduceLT, Nat.reduceLeDiff, Nat.reduceBEq, Int.reduceLE, Int.reduceLT, Int.reduceEq, Int.reduceNeg, c1, h2, c4, h5, h7, c8, h9]
          cases h11 : (decide (x10 = 3))
          · simp only [D, DT, reduceIte, reduceCtorEq, Nat.reduceEqDiff, Nat.reduceAdd, Nat.reduceLT, Nat.reduceLeDiff, Nat.reduceBEq, Int.reduceLE, Int.reduceLT, Int.reduceEq, Int.reduceNeg, c1, h2, c4, h5, h7, c8, h9, h11]
            try rfl
          · simp only [D, DT, reduceIte, reduceCtorEq, Nat.reduceEqDiff, Nat.reduceAdd, Nat.reduceLT, Nat.reduceLeDiff, Nat.reduceBEq, Int.reduceLE, Int.reduceLT, Int.reduceEq, Int.reduceNeg, c1, h2, c4, h5, h7, c8, h9, h11]
            have c12 : ansL X 8 [(.agg [(.bool false), (.str [47, 97]), (.sl [(.agg [(.int .i64 1), (.int .i64 (-1))])]), (.sl (encL api_Tag.enc x3.Match)), (.sl []), (.bool x3.AnyMatch), (.bool x3.AnyNone), (.int .i64 x3.Since), (.int .i64 x3.Unless), (.str [97]), (.bool true)]), (.agg [(.str [97]), (.bool false), (.int .i64 (-1)), (.int .i64 5), (.int .i64 0), (.int .i64 0), (.int .i64 0), (.int .i64 0), (.sl []), (.str []), (.bool false)]), (.bool true)] = Option.map (AV.int .i64) (cond_Check.f (api_Request.mk false [47, 97] [(api_Spec.mk 1 (-1))] x3.Match [] x3.AnyMatch x3.AnyNone x3.Since x3.Unless [97] true) (api_Meta.mk [97] false (-1) 5 0 0 0 0 [] [] false) true) := cond_Check.ok (api_Request.mk false [47, 97] [(api_Spec.mk 1 (-1))] x3.Match [] x3.AnyMatch x3.AnyNone x3.Since x3.Unless [97] true) (api_Meta.mk [97] false (-1) 5 0 0 0 0 [] [] false) true
            rcases h13 : cond_Check.f (api_Request.mk false [47, 97] [(api_Spec.mk 1 (-1))] x3.Match [] x3.AnyMatch x3.AnyNone x3.Since x3.Unless [97] true) (api_Meta.mk [97] false (-1) 5 0 0 0 0 [] [] false) true with _ | x14
            · simp only [D, DT, reduceIte, reduceCtorEq, Nat.reduceEqDiff, Nat.reduceAdd, Nat.reduceLT, Nat.reduceLeDiff, Nat.reduceBEq, Int.reduceLE, Int.reduceLT, Int.reduceEq, Int.reduceNeg, c1, h2, c4, h5, h7, c8, h9, h11, c12, h13]
            · simp only [D, DT, reduceIte, reduceCtorEq, Nat.reduceEqDiff, Nat.reduceAdd, Nat.reduceLT, Nat.reduceLeDiff, Nat.reduceBEq, Int.reduceLE, Int.reduceLT, Int.reduceEq, Int.reduceNeg, c1, h2, c4, h5, h7, c8, h9, h11, c12, h13]
              try rfl
noncomputable def mandolinelaw08_CondChecks.f (a0 : api_Request) (a1 : api_Meta) (a2 : Bool) : Option Bool :=
  (mandolineref08_Few.f (api_Cond.mk a0.Cond_Match a0.Cond_None a0.Cond_AnyMatch a0.Cond_AnyNone a0.Cond_Since a0.Cond_Unless a0.Cond_Range_Text a0.Cond_Range_Weak)).bind fun x3 =>
  bif x3 then
    bif (decide ((70 : Int) < (a0.Specs.length : Int))) then
      (mandolinelaw08_awake.f).bind fun x21 =>
      some x21
    else
      (cond_Check.f a0 a1 a2).bind fun x11 =>
      (mandolineref08_Check.f a0 a1 a2).bind fun x14 =>
      bif (decide (x11 = x14)) then
        (mandolinelaw08_awake.f).bind fun x18 =>
        some x18
      else
        some false
  else
    (mandolinelaw08_awake.f).bind fun x7 =>
    some x7
set_option maxHeartbeats 4000000 in
theorem mandolinelaw08_CondChecks.ok (a0 : api_Request) (a1 : api_Meta) (a2 : Bool) : ansL X 3 [(.agg [(.bool a0.Head), (.str a0.Object), (.sl (encL api_Spec.enc a0.Specs)), (.sl (encL api_Tag.enc a0.Cond_Match)), (.sl (encL api_Tag.enc a0.Cond_None)), (.bool a0.Cond_AnyMatch), (.bool a0.Cond_AnyNone), (.int .i64 a0.Cond_Since), (.int .i64 a0.Cond_Unless), (.str a0.Cond_Range_Text), (.bool a0.Cond_Range_Weak)]), (.agg [(.str a1.Tag_Text), (.bool a1.Tag_Weak), (.int .i64 a1.Modified), (.int .i64 a1.Length), (.int .i64 a1.Have), (.int .i64 a1.Fresh), (.int .i64 a1.While), (.int .i64 a1.Error), (.sl (encL AV.str a1.Keys)), (.str a1.Tenant), (.bool a1.Keep)]), (.bool a2)] = Option.map AV.bool (mandolinelaw08_CondChecks.f a0 a1 a2) := by
  rw [ansL_run (fd := c3) rfl rfl]
  simp only [D, DT, reduceIte, reduceCtorEq, Nat.reduceEqDiff, Nat.reduceAdd, Nat.reduceLT, Nat.reduceLeDiff, Nat.reduceBEq, Int.reduceLE, Int.reduceLT, Int.reduceEq, Int.reduceNeg, c3, mandolinelaw08_CondChecks.f]
  have c1 : ansL X 6 [(.agg [(.sl (encL api_Tag.enc a0.Cond_Match)), (.sl (encL api_Tag.enc a0.Cond_None)), (.bool a0.Cond_AnyMatch), (.bool a0.Cond_AnyNone), (.int .i64 a0.Cond_Since), (.int .i64 a0.Cond_Unless), (.str a0.Cond_Range_Text), (.bool a0.Cond_Range_Weak)])] = Option.map AV.bool (mandolineref08_Few.f (api_Cond.mk a0.Cond_Match a0.Cond_None a0.Cond_AnyMatch a0.Cond_AnyNone a0.Cond_Since a0.Cond_Unless a0.Cond_Range_Text a0.Cond_Range_Weak)) := mandolineref08_Few.ok (api_Cond.mk a0.Cond_Match a0.Cond_None a0.Cond_AnyMatch a0.Cond_AnyNone a0.Cond_Since a0.Cond_Unless a0.Cond_Range_Text a0.Cond_Range_Weak)
  rcases h2 : mandolineref08_Few.f (api_Cond.mk a0.Cond_Match a0.Cond_None a0.Cond_AnyMatch a0.Cond_AnyNone a0.Cond_Since a0.Cond_Unless a0.Cond_Range_Text a0.Cond_Range_Weak) with _ | x3
  · simp only [D, DT, reduceIte, reduceCtorEq, Nat.reduceEqDiff, Nat.reduceAdd, Nat.reduceLT, Nat.reduceLeDiff, Nat.reduceBEq, Int.reduceLE, Int.reduceLT, Int.reduceEq, Int.reduceNeg, c1, h2]
  · simp only [D, DT, reduceIte, reduceCtorEq, Nat.reduceEqDiff, Nat.reduceAdd, Nat.reduceLT, Nat.reduceLeDiff, Nat.reduceBEq, Int.reduceLE, Int.reduceLT, Int.reduceEq, Int.reduceNeg, c1, h2]
    cases h4 : x3
    · simp only [D, DT, reduceIte, reduceCtorEq, Nat.reduceEqDiff, Nat.reduceAdd, Nat.reduceLT, Nat.reduceLeDiff, Nat.reduceBEq, Int.reduceLE, Int.reduceLT, Int.reduceEq, Int.reduceNeg, c1, h2, h4]
      have c5 : ansL X 7 [] = Option.map AV.bool (mandolinelaw08_awake.f) := mandolinelaw08_awake.ok
      rcases h6 : mandolinelaw08_awake.f with _ | x7
      · simp only [D, DT, reduceIte, reduceCtorEq, Nat.reduceEqDiff, Nat.reduceAdd, Nat.reduceLT, Nat.reduceLeDiff, Nat.reduceBEq, Int.reduceLE, Int.reduceLT, Int.reduceEq, Int.reduceNeg, c1, h2, h4, c5, h6]
      · simp only [D, DT, reduceIte, reduceCtorEq, Nat.reduceEqDiff, Nat.reduceAdd, Nat.reduceLT, Nat.reduceLeDiff, Nat.reduceBEq, Int.reduceLE, Int.reduceLT, Int.reduceEq, Int.reduceNeg, c1, h2, h4, c5, h6]
        try rfl
    · simp only [D, DT, reduceIte, reduceCtorEq, Nat.reduceEqDiff, Nat.reduceAdd, Nat.reduceLT, Nat.reduceLeDiff, Nat.reduceBEq, Int.reduceLE, Int.reduceLT, Int.reduceEq, Int.reduceNeg, c1, h2, h4]
      cases h8 : (decide ((70 : Int) < (a0.Specs.length : Int)))
      · simp only [D, DT, reduceIte, reduceCtorEq, Nat.reduceEqDiff, Nat.reduceAdd, Nat.reduceLT, Nat.reduceLeDiff, Nat.reduceBEq, Int.reduceLE, Int.reduceLT, Int.reduceEq, Int.reduceNeg, c1, h2, h4, h8]
        have c9 : ansL X 8 [(.agg [(.bool a0.Head), (.str a0.Object), (.sl (encL api_Spec.enc a0.Specs)), (.sl (encL api_Tag.enc a0.Cond_Match)), (.sl (encL api_Tag.enc a0.Cond_None)), (.bool a0.Cond_AnyMatch), (.bool a0.Cond_AnyNone), (.int .i64 a0.Cond_Since), (.int .i64 a0.Cond_Unless), (.str a0.Cond_Range_Text), (.bool a0.Cond_Range_Weak)]), (.agg [(.str a1.Tag_Text), (.bool a1.Tag_Weak), (.int .i64 a1.Modified), (.int .i64 a1.Length), (.int .i64 a1.Have), (.int .i64 a1.Fresh), (.int .i64 a1.While), (.int .i64 a1.Error), (.sl (encL AV.str a1.Keys)), (.str a1.Tenant), (.bool a1.Keep)]), (.bool a2)] = Option.map (AV.int .i64) (cond_Check.f a0 a1 a2) := cond_Check.ok a0 a1 a2
        rcases h10 : cond_Check.f a0 a1 a2 with _ | x11
        · simp only [D, DT, reduceIte, reduceCtorEq, Nat.reduceEqDiff, Nat.reduceAdd, Nat.reduceLT, Nat.reduceLeDiff, Nat.reduceBEq, Int.reduceLE, Int.reduceLT, Int.reduceEq, Int.reduceNeg, c1, h2, h4, h8, c9, h10]
        · simp only [D, DT, reduceIte, reduceCtorEq, Nat.reduceEqDiff, Nat.reduceAdd, Nat.reduceLT, Nat.reduceLeDiff, Nat.reduceBEq, Int.reduceLE, Int.reduceLT, Int.reduceEq, Int.reduceNeg, c1, h2, h4, h8, c9, h10]
          have c12 : ansL X 9 [(.agg [(.bool a0.Head), (.str a0.Object), (.sl (encL api_Spec.enc a0.Specs)), (.sl (encL api_Tag.enc a0.Cond_Match)), (.sl (encL api_Tag.enc a0.Cond_None)), (.bool a0.Cond_AnyMatch), (.bool a0.Cond_AnyNone), (.int .i64 a0.Cond_Since), (.int .i64 a0.Cond_Unless), (.str a0.Cond_Range_Text), (.bool a0.Cond_Range_Weak)]), (.agg [(.str a1.Tag_Text), (.bool a1.Tag_Weak), (.int .i64 a1.Modified), (.int .i64 a1.Length), (.int .i64 a1.Have), (.int .i64 a1.Fresh), (.int .i64 a1.While), (.int .i64 a1.Error), (.sl (encL AV.str a1.Keys)), (.str a1.Tenant), (.bool a1.Keep)]), (.bool a2)] = Option.map (AV.int .i64) (mandolineref08_Check.f a0 a1 a2) := mandolineref08_Check.ok a0 a1 a2
          rcases h13 : mandolineref08_Check.f a0 a1 a2 with _ | x14
          · simp only [D, DT, reduceIte, reduceCtorEq, Nat.reduceEqDiff, Nat.reduceAdd, Nat.reduceLT, Nat.reduceLeDiff, Nat.reduceBEq, Int.reduceLE, Int.reduceLT, Int.reduceEq, Int.reduceNeg, c1, h2, h4, h8, c9, h10, c12, h13]
          · simp only [D, DT, reduceIte, reduceCtorEq, Nat.reduceEqDiff, Nat.reduceAdd, Nat.reduceLT, Nat.reduceLeDiff, Nat.reduceBEq, Int.reduceLE, Int.reduceLT, Int.reduceEq, Int.reduceNeg, c1, h2, h4, h8, c9, h10, c12, h13]
            cases h15 : (decide (x11 = x14))
            · simp only [D, DT, reduceIte, reduceCtorEq, Nat.reduceEqDiff, Nat.reduceAdd, Nat.reduceLT, Nat.reduceLeDiff, Nat.reduceBEq, Int.reduceLE, Int.reduceLT, Int.reduceEq, Int.reduceNeg, c1, h2, h4, h8, c9, h10, c12, h13, h15]
              try rfl
            · simp only [D, DT, reduceIte, reduceCtorEq, Nat.reduceEqDiff, Nat.reduceAdd, Nat.reduceLT, Nat.reduceLeDiff, Nat.reduceBEq, Int.reduceLE, Int.reduceLT, Int.reduceEq, Int.reduceNeg, c1, h2, h4, h8, c9, h10, c12, h13, h15]
              have c16 : ansL X 7 [] = Option.map AV.bool (mandolinelaw08_awake.f) := mandolinelaw08_awake.ok
              rcases h17 : mandolinelaw08_awake.f with _ | x18
              · simp only [D, DT, reduceIte, reduceCtorEq, Nat.reduceEqDiff, Nat.reduceAdd, Nat.reduceLT, Nat.reduceLeDiff, Nat.reduceBEq, Int.reduceLE, Int.reduceLT, Int.reduceEq, Int.reduceNeg, c1, h2, h4, h8, c9, h10, c12, h13, h15, c16, h17]
              · simp only [D, DT, reduceIte, reduceCtorEq, Nat.reduceEqDiff, Nat.reduceAdd, Nat.reduceLT, Nat.reduceLeDiff, Nat.reduceBEq, Int.reduceLE, Int.reduceLT, Int.reduceEq, Int.reduceNeg, c1, h2, h4, h8, c9, h10, c12, h13, h15, c16, h17]
                try rfl
      · simp only [D, DT, reduceIte, reduceCtorEq, Nat.reduceEqDiff, Nat.reduceAdd, Nat.reduceLT, Nat.reduceLeDiff, Nat.reduceBEq, Int.reduceLE, Int.reduceLT, Int.reduceEq, Int.reduceNeg, c1, h2, h4, h8]
        have c19 : ansL X 7 [] = Option.map AV.bool (mandolinelaw08_awake.f) := mandolinelaw08_awake.ok
        rcases h20 : mandolinelaw08_awake.f with _ | x21
        · simp only [D, DT, reduceIte, reduceCtorEq, Nat.reduceEqDiff, Nat.reduceAdd, Nat.reduceLT, Nat.reduceLeDiff, Nat.reduceBEq, Int.reduceLE, Int.reduceLT, Int.reduceEq, Int.reduceNeg, c1, h2, h4, h8, c19, h20]
        · simp only [D, DT, reduceIte, reduceCtorEq, Nat.reduceEqDiff, Nat.reduceAdd, Nat.reduceLT, Nat.reduceLeDiff, Nat.reduceBEq, Int.reduceLE, Int.reduceLT, Int.reduceEq, Int.reduceNeg, c1, h2, h4, h8, c19, h20]
          try rfl
noncomputable def mandolinelaw08_CondOrder.f (a0 : api_Request) (a1 : api_Meta) (a2 : api_Cond) : Option Bool :=
  (mandolineref08_Few.f (api_Cond.mk a0.Cond_Match a0.Cond_None a0.Cond_AnyMatch a0.Cond_AnyNone a0.Cond_Since a0.Cond_Unless a0.Cond_Range_Text a0.Cond_Range_Weak)).bind fun x3 =>
  bif x3 then
    (mandolineref08_Few.f a2).bind fun x10 =>
    bif x10 then
      bif (decide ((70 : Int) < (a0.Specs.length : Int))) then
        (mandolinelaw08_awake.f).bind fun x58 =>
        some x58
      else
        bif (decide ((0 : Int) < (a0.Cond_None.length : Int))) then
          (cond_Check.f a0 a1 true).bind fun x44 =>
          (cond_Check.f (api_Request.mk a0.Head a0.Object a0.Specs a0.Cond_Match a0.Cond_None a0.Cond_AnyMatch a0.Cond_AnyNone a2.Since a0.Cond_Unless a2.Range_Text a2.Range_Weak) a1 true).bind fun x47 =>
          bif ((decide (x44 = 3)) == (decide (x47 = 3))) then
            (cond_Check.f (api_Request.mk a0.Head a0.Object a0.Specs a0.Cond_Match a2.None a0.Cond_AnyMatch a2.AnyNone a2.Since a0.Cond_Unless a2.Range_Text a2.Range_Weak) a1 true).bind fun x51 =>
            bif ((decide (x44 = 4)) == (decide (x51 = 4))) then
              (mandolinelaw08_awake.f).bind fun x55 =>
              some x55
            else
              some false
          else
            some false
        else
          bif a0.Cond_AnyNone then
            (cond_Check.f (api_Request.mk a0.Head a0.Object a0.Specs a0.Cond_Match a0.Cond_None a0.Cond_AnyMatch true a0.Cond_Since a0.Cond_Unless a0.Cond_Range_Text a0.Cond_Range_Weak) a1 true).bind fun x30 =>
            (cond_Check.f (api_Request.mk a0.Head a0.Object a0.Specs a0.Cond_Match a0.Cond_None a0.Cond_AnyMatch true a2.Since a0.Cond_Unless a2.Range_Text a2.Range_Weak) a1 true).bind fun x33 =>
            bif ((decide (x30 = 3)) == (decide (x33 = 3))) then
              (cond_Check.f (api_Request.mk a0.Head a0.Object a0.Specs a0.Cond_Match a2.None a0.Cond_AnyMatch a2.AnyNone a2.Since a0.Cond_Unless a2.Range_Text a2.Range_Weak) a1 true).bind fun x37 =>
              bif ((decide (x30 = 4)) == (decide (x37 = 4))) then
                (mandolinelaw08_awake.f).bind fun x41 =>
                some x41
              else
                some false
            else
              some false
          else
            (cond_Check.f (api_Request.mk a0.Head a0.Object a0.Specs a0.Cond_Match a0.Cond_None a0.Cond_AnyMatch false a0.Cond_Since a0.Cond_Unless a0.Cond_Range_Text a0.Cond_Range_Weak) a1 true).bind fun x20 =>
            (cond_Check.f (api_Request.mk a0.Head a0.Object a0.Specs a0.Cond_Match a2.None a0.Cond_AnyMatch a2.AnyNone a2.Since a0.Cond_Unless a2.Range_Text a2.Range_Weak) a1 true).bind fun x23 =>
            bif ((decide (x20 = 4)) == (decide (x23 = 4))) then
              (mandolinelaw08_awake.f).bind fun x27 =>
              some x27
            else
              some false
    else
      (mandolinelaw08_awake.f).bind fun x14 =>
      some x14
  else
    (mandolinelaw08_awake.f).bind fun x7 =>
    some x7
set_option maxHeartbeats 4000000 in
theorem mandolinelaw08_CondOrder.ok (a0 : api_Request) (a1 : api_Meta) (a2 : api_Cond) : ansL X 4 [(.agg [(.bool a0.Head), (.str a0.Object), (.sl (encL api_Spec.enc a0.Specs)), (.sl (encL api_Tag.enc a0.Cond_Match)), (.sl (encL api_Tag.enc a0.Cond_None)), (.bool a0.Cond_AnyMatch), (.bool a0.Cond_AnyNone), (.int .i64 a0.Cond_Since), (.int .i64 a0.Cond_Unless), (.str a0.Cond_Range_Text), (.bool a0.Cond_Range_Weak)]), (.agg [(.str a1.Tag_Text), (.bool a1.Tag_Weak), (.int .i64 a1.Modified), (.int .i64 a1.Length), (.int .i64 a1.Have), (.int .i64 a1.Fresh), (.int .i64 a1.While), (.int .i64 a1.Error), (.sl (encL AV.str a1.Keys)), (.str a1.Tenant), (.bool a1.Keep)]), (.agg [(.sl (encL api_Tag.enc a2.Match)), (.sl (encL api_Tag.enc a2.None)), (.bool a2.AnyMatch), (.bool a2.AnyNone), (.int .i64 a2.Since), (.int .i64 a2.Unless), (.str a2.Range_Text), (.bool a2.Range_Weak)])] = Option.map AV.bool (mandolinelaw08_CondOrder.f a0 a1 a2) := by
  rw [ansL_run (fd := c4) rfl rfl]
  simp only [D, DT, reduceIte, reduceCtorEq, Nat.reduceEqDiff, Nat.reduceAdd, Nat.reduceLT, Nat.reduceLeDiff, Nat.reduceBEq, Int.reduceLE, Int.reduceLT, Int.reduceEq, Int.reduceNeg, c4, mandolinelaw08_CondOrder.f]
  have c1 : ansL X 6 [(.agg [(.sl (encL api_Tag.enc a0.Cond_Match)), (.sl (encL api_Tag.enc a0.Cond_None)), (.bool a0.Cond_AnyMatch), (.bool a0.Cond_AnyNone), (.int .i64 a0.Cond_Since), (.int .i64 a0.Cond_Unless), (.str a0.Cond_Range_Text), (.bool a0.Cond_Range_Weak)])] = Option.map AV.bool (mandolineref08_Few.f (api_Cond.mk a0.Cond_Match a0.Cond_None a0.Cond_AnyMatch a0.Cond_AnyNone a0.Cond_Since a0.Cond_Unless a0.Cond_Range_Text a0.Cond_Range_Weak)) := mandolineref08_Few.ok (api_Cond.mk a0.Cond_Match a0.Cond_None a0.Cond_AnyMatch a0.Cond_AnyNone a0.Cond_Since a0.Cond_Unless a0.Cond_Range_Text a0.Cond_Range_Weak)
  rcases h2 : mandolineref08_Few.f (api_Cond.mk a0.Cond_Match a0.Cond_None a0.Cond_AnyMatch a0.Cond_AnyNone a0.Cond_Since a0.Cond_Unless a0.Cond_Range_Text a0.Cond_Range_Weak) with _ | x3
  · simp only [D, DT, reduceIte, reduceCtorEq, Nat.reduceEqDiff, Nat.reduceAdd, Nat.reduceLT, Nat.reduceLeDiff, Nat.reduceBEq, Int.reduceLE, Int.reduceLT, Int.reduceEq, Int.reduceNeg, c1, h2]
  · simp only [D, DT, reduceIte, reduceCtorEq, Nat.reduceEqDiff, Nat.reduceAdd, Nat.reduceLT, Nat.reduceLeDiff, Nat.reduceBEq, Int.reduceLE, Int.reduceLT, Int.reduceEq, Int.reduceNeg, c1, h2]
    cases h4 : x3
    · simp only [D, DT, reduceIte, reduceCtorEq, Nat.reduceEqDiff, Nat.reduceAdd, Nat.reduceLT, Nat.reduceLeDiff, Nat.reduceBEq, Int.reduceLE, Int.reduceLT, Int.reduceEq, Int.reduceNeg, c1, h2, h4]
      have c5 : ansL X 7 [] = Option.map AV.bool (mandolinelaw08_awake.f) := mandolinelaw08_awake.ok
      rcases h6 : mandolinelaw08_awake.f with _ | x7
      · simp only [D, DT, reduceIte, reduceCtorEq, Nat.reduceEqDiff, Nat.reduceAdd, Nat.reduceLT, Nat.reduceLeDiff, Nat.reduceBEq, Int.reduceLE, Int.reduceLT, Int.reduceEq, Int.reduceNeg, c1, h2, h4, c5, h6]
      · simp only [D, DT, reduceIte, reduceCtorEq, Nat.reduceEqDiff, Nat.reduceAdd, Nat.reduceLT, Nat.reduceLeDiff, Nat.reduceBEq, Int.reduceLE, Int.reduceLT, Int.reduceEq, Int.reduceNeg, c1, h2, h4, c5, h6]
        try rfl
    · simp only [D, DT, reduceIte, reduceCtorEq, Nat.reduceEqDiff, Nat.reduceAdd, Nat.reduceLT, Nat.reduceLeDiff, Nat.reduceBEq, Int.reduceLE, Int.reduceLT, Int.reduceEq, Int.reduceNeg, c1, h2, h4]
      have c8 : ansL X 6 [(.agg [(.sl (encL api_Tag.enc a2.Match)), (.sl (encL api_Tag.enc a2.None)), (.bool a2.AnyMatch), (.bool a2.AnyNone), (.int .i64 a2.Since), (.int .i64 a2.Unless), (.str a2.Range_Text), (.bool a2.Range_Weak)])] = Option.map AV.bool (mandolineref08_Few.f a2) := mandolineref08_Few.ok a2
      rcases h9 : mandolineref08_Few.f a2 with _ | x10
      · simp only [D, DT, reduceIte, reduceCtorEq, Nat.reduceEqDiff, Nat.reduceAdd, Nat.reduceLT, Nat.reduceLeDiff, Nat.reduceBEq, Int.reduceLE, Int.reduceLT, Int.reduceEq, Int.reduceNeg, c1, h2, h4, c8, h9]
      · simp only [D, DT, reduceIte, reduceCtorEq, Nat.reduceEqDiff, Nat.reduceAdd, Nat.reduceLT, Nat.reduceLeDiff, Nat.reduceBEq, Int.reduceLE, Int.reduceLT, Int.reduceEq, Int.reduceNeg, c1, h2, h4, c8, h9]
        cases h11 : x10
        · simp only [D, DT, reduceIte, reduceCtorEq, Nat.reduceEqDiff, Nat.reduceAdd, Nat.reduceLT, Nat.reduceLeDiff, Nat.reduceBEq, Int.reduceLE, Int.reduceLT, Int.reduceEq, Int.reduceNeg, c1, h2, h4, c8, h9, h11]
          have c12 : ansL X 7 [] = Option.map AV.bool (mandolinelaw08_awake.f) := mandolinelaw08_awake.ok
          rcases h13 : mandolinelaw08_awake.f with _ | x14
          · simp only [D, DT, reduceIte, reduceCtorEq, Nat.reduceEqDiff, Nat.reduceAdd, Nat.reduceLT, Nat.reduceLeDiff, Nat.reduceBEq, Int.reduceLE, Int.reduceLT, Int.reduceEq, Int.reduceNeg, c1, h2, h4, c8, h9, h11, c12, h13]
          · simp only [D, DT, reduceIte, reduceCtorEq, Nat.reduceEqDiff, Nat.reduceAdd, Nat.reduceLT, Nat.reduceLeDiff, Nat.reduceBEq, Int.reduceLE, Int.reduceLT, Int.reduceEq, Int.reduceNeg, c1, h2, h4, c8, h9, h11, c12, h13]
            try rfl
        · simp only [D, DT, reduceIte, reduceCtorEq, Nat.reduceEqDiff, Nat.reduceAdd, Nat.reduceLT, Nat.reduceLeDiff, Nat.reduceBEq, Int.reduceLE, Int.reduceLT, Int.reduceEq, Int.reduceNeg, c1, h2, h4, c8, h9, h11]
          cases h15 : (decide ((70 : Int) < (a0.Specs.length : Int)))
          · simp only [D, DT, reduceIte, reduceCtorEq, Nat.reduceEqDiff, Nat.reduceAdd, Nat.reduceLT, Nat.reduceLeDiff, Nat.reduceBEq, Int.reduceLE, Int.reduceLT, Int.reduceEq, Int.reduceNeg, c1, h2, h4, c8, h9, h11, h15]
            cases h16 : (decide ((0 : Int) < (a0.Cond_None.length : Int)))
            · simp only [D, DT, reduceIte, reduceCtorEq, Nat.reduceEqDiff, Nat.reduceAdd, Nat.reduceLT, Nat.reduceLeDiff, Nat.reduceBEq, Int.reduceLE, Int.reduceLT, Int.reduceEq, Int.reduceNeg, c1, h2, h4, c8, h9, h11, h15, h16]
              cases h17 : a0.Cond_AnyNone
              · simp only [D, DT, reduceIte, reduceCtorEq, Nat.reduceEqDiff, Nat.reduceAdd, Nat.reduceLT, Nat.reduceLeDiff, Nat.reduceBEq, Int.reduceLE, Int.reduceLT, Int.reduceEq, Int.reduceNeg, c1, h2, h4, c8, h9, h11, h15, h16, h17]
                have c18 : ansL X 8 [(.agg [(.bool a0.Head), (.str a0.Object), (.sl (encL api_Spec.enc a0.Specs)), (.sl (encL api_Tag.enc a0.Cond_Match)), (.sl (encL api_Tag.enc a0.Cond_None)), (.bool a0.Cond_AnyMatch), (.bool false), (.int .i64 a0.Cond_Since), (.int .i64 a0.Cond_Unless), (.str a0.Cond_Range_Text), (.bool a0.Cond_Range_Weak)]), (.agg [(.str a1.Tag_Text), (.bool a1.Tag_Weak), (.int .i64 a1.Modified), (.int .i64 a1.Length), (.int .i64 a1.Have), (.int .i64 a1.Fresh), (.int .i64 a1.While), (.int .i64 a1.Error), (.sl (encL AV.str a1.Keys)), (.str a1.Tenant), (.bool a1.Keep)]), (.bool true)] = Option.map (AV.int .i64) (cond_Check.f (api_Request.mk a0.Head a0.Object a0.Specs a0.Cond_Match a0.Cond_None a0.Cond_AnyMatch false a0.Cond_Since a0.Cond_Unless a0.Cond_Range_Text a0.Cond_Range_Weak) a1 true) := cond_Check.ok (api_Request.mk a0.Head a0.Object a0.Specs a0.Cond_Match a0.Cond_None a0.Cond_AnyMatch false a0.Cond_Since a0.Cond_Unless a0.Cond_Range_Text a0.Cond_Range_Weak) a1 true
                rcases h19 : cond_Check.f (api_Request.mk a0.Head a0.Object a0.Specs a0.Cond_Match a0.Cond_None a0.Cond_AnyMatch false a0.Cond_Since a0.Cond_Unless a0.Cond_Range_Text a0.Cond_Range_Weak) a1 true with _ | x20
                · simp only [D, DT, reduceIte, reduceCtorEq, Nat.reduceEqDiff, Nat.reduceAdd, Nat.reduceLT, Nat.reduceLeDiff, Nat.reduceBEq, Int.reduceLE, Int.reduceLT, Int.reduceEq, Int.reduceNeg, c1, h2, h4, c8, h9, h11, h15, h16, h17, c18, h19]
                · simp only [D, DT, reduceIte, reduceCtorEq, Nat.reduceEqDiff, Nat.reduceAdd, Nat.reduceLT, Nat.reduceLeDiff, Nat.reduceBEq, Int.reduceLE, Int.reduceLT, Int.reduceEq, Int.reduceNeg, c1, h2, h4, c8, h9, h11, h15, h16, h17, c18, h19]
                  have c21 : ansL X 8 [(.agg [(.bool a0.Head), (.str a0.Object), (.sl (encL api_Spec.enc a0.Specs)), (.sl (encL api_Tag.enc a0.Cond_Match)), (.sl (encL api_Tag.enc a2.None)), (.bool a0.Cond_AnyMatch), (.bool a2.AnyNone), (.int .i64 a2.Since), (.int .i64 a0.Cond_Unless), (.str a2.Range_Text), (.bool a2.Range_Weak)]), (.agg [(.str a1.Tag_Text), (.bool a1.Tag_Weak), (.int .i64 a1.Modified), (.int .i64 a1.Length), (.int .i64 a1.Have), (.int .i64 a1.Fresh), (.int .i64 a1.While), (.int .i64 a1.Error), (.sl (encL AV.str a1.Keys)), (.str a1.Tenant), (.bool a1.Keep)]), (.bool true)] = Option.map (AV.int .i64) (cond_Check.f (api_Request.mk a0.Head a0.Object a0.Specs a0.Cond_Match a2.None a0.Cond_AnyMatch a2.AnyNone a2.Since a0.Cond_Unless a2.Range_Text a2.Range_Weak) a1 true) := cond_Check.ok (api_Request.mk a0.Head a0.Object a0.Specs a0.Cond_Match a2.None a0.Cond_AnyMatch a2.AnyNone a2.Since a0.Cond_Unless a2.Range_Text a2.Range_Weak) a1 true
                  rcases h22 : cond_Check.f (api_Request.mk a0.Head a0.Object a0.Specs a0.Cond_Match a2.None a0.Cond_AnyMatch a2.AnyNone a2.Since a0.Cond_Unless a2.Range_Text a2.Range_Weak) a1 true with _ | x23
                  · simp only [D, DT, reduceIte, reduceCtorEq, Nat.reduceEqDiff, Nat.reduceAdd, Nat.reduceLT, Nat.reduceLeDiff, Nat.reduceBEq, Int.reduceLE, Int.reduceLT, Int.reduceEq, Int.reduceNeg, c1, h2, h4, c8, h9, h11, h15, h16, h17, c18, h19, c21, h22]
                  · simp only [D, DT, reduceIte, reduceCtorEq, Nat.reduceEqDiff, Nat.reduceAdd, Nat.reduceLT, Nat.reduceLeDiff, Nat.reduceBEq, Int.reduceLE, Int.reduceLT, Int.reduceEq, Int.reduceNeg, c1, h2, h4, c8, h9, h11, h15, h16, h17, c18, h19, c21, h22]
                    cases h24 : ((decide (x20 = 4)) == (decide (x23 = 4)))
                    · simp only [D, DT, reduceIte, reduceCtorEq, Nat.reduceEqDiff, Nat.reduceAdd, Nat.reduceLT, Nat.reduceLeDiff, Nat.reduceBEq, Int.reduceLE, Int.reduceLT, Int.reduceEq, Int.reduceNeg, c1, h2, h4, c8, h9, h11, h15, h16, h17, c18, h19, c21, h22, h24]
                      try rfl
                    · simp only [D, DT, reduceIte, reduceCtorEq, Nat.reduceEqDiff, Nat.reduceAdd, Nat.reduceLT, Nat.reduceLeDiff, Nat.reduceBEq, Int.reduceLE, Int.reduceLT, Int.reduceEq, Int.reduceNeg, c1, h2, h4, c8, h9, h11, h15, h16, h17, c18, h19, c21, h22, h24]
                      have c25 : ansL X 7 [] = Option.map AV.bool (mandolinelaw08_awake.f) := mandolinelaw08_awake.ok
                      rcases h26 : mandolinelaw08_awake.f with _ | x27
                      · simp only [D, DT, reduceIte, reduceCtorEq, Nat.reduceEqDiff, Nat.reduceAdd, Nat.reduceLT, Nat.reduceLeDiff, Nat.reduceBEq, Int.reduceLE, Int.reduceLT, Int.reduceEq, Int.reduceNeg, c1, h2, h4, c8, h9, h11, h15, h16, h17, c18, h19, c21, h22, h24, c25, h26]
                      · simp only [D, DT, reduceIte, reduceCtorEq, Nat.reduceEqDiff, Nat.reduceAdd, Nat.reduceLT, Nat.reduceLeDiff, Nat.reduceBEq, Int.reduceLE, Int.reduceLT, Int.reduceEq, Int.reduceNeg, c1, h2, h4, c8, h9, h11, h15, h16, h17, c18, h19, c21, h22, h24, c25, h26]
                        try rfl
              · simp only [D, DT, reduceIte, reduceCtorEq, Nat.reduceEqDiff, Nat.reduceAdd, Nat.reduceLT, Nat.reduceLeDiff, Nat.reduceBEq, Int.reduceLE, Int.reduceLT, Int.reduceEq, Int.reduceNeg, c1, h2, h4, c8, h9, h11, h15, h16, h17]
                have c28 : ansL X 8 [(.agg [(.bool a0.Head), (.str a0.Object), (.sl (encL api_Spec.enc a0.Specs)), (.sl (encL api_Tag.enc a0.Cond_Match)), (.sl (encL api_Tag.enc a0.Cond_None)), (.bool a0.Cond_AnyMatch), (.bool true), (.int .i64 a0.Cond_Since), (.int .i64 a0.Cond_Unless), (.str a0.Cond_Range_Text), (.bool a0.Cond_Range_Weak)]), (.agg [(.str a1.Tag_Text), (.bool a1.Tag_Weak), (.int .i64 a1.Modified), (.int .i64 a1.Length), (.int .i64 a1.Have), (.int .i64 a1.Fresh), (.int .i64 a1.While), (.int .i64 a1.Error), (.sl (encL AV.str a1.Keys)), (.str a1.Tenant), (.bool a1.Keep)]), (.bool true)] = Option.map (AV.int .i64) (cond_Check.f (api_Request.mk a0.Head a0.Object a0.Specs a0.Cond_Match a0.Cond_None a0.Cond_AnyMatch true a0.Cond_Since a0.Cond_Unless a0.Cond_Range_Text a0.Cond_Range_Weak) a1 true) := cond_Check.ok (api_Request.mk a0.Head a0.Object a0.Specs a0.Cond_Match a0.Cond_None a0.Cond_AnyMatch true a0.Cond_Since a0.Cond_Unless a0.Cond_Range_Text a0.Cond_Range_Weak) a1 true
                rcases h29 : cond_Check.f (api_Request.mk a0.Head a0.Object a0.Specs a0.Cond_Match a0.Cond_None a0.Cond_AnyMatch true a0.Cond_Since a0.Cond_Unless a0.Cond_Range_Text a0.Cond_Range_Weak) a1 true with _ | x30
                · simp only [D, DT, reduceIte, reduceCtorEq, Nat.reduceEqDiff, Nat.reduceAdd, Nat.reduceLT, Nat.reduceLeDiff, Nat.reduceBEq, Int.reduceLE, Int.reduceLT, Int.reduceEq, Int.reduceNeg, c1, h2, h4, c8, h9, h11, h15, h16, h17, c28, h29]
                · simp only [D, DT, reduceIte, reduceCtorEq, Nat.reduceEqDiff, Nat.reduceAdd, Nat.reduceLT, Nat.reduceLeDiff, Nat.reduceBEq, Int.reduceLE, Int.reduceLT, Int.reduceEq, Int.reduceNeg, c1, h2, h4, c8, h9, h11, h15, h16, h17, c28, h29]
                  have c31 : ansL X 8 [(.agg [(.bool a0.Head), (.str a0.Object), (.sl (encL api_Spec.enc a0.Specs)), (.sl (encL api_Tag.enc a0.Cond_Match)), (.sl (encL api_Tag.enc a0.Cond_None)), (.bool a0.Cond_AnyMatch), (.bool true), (.int .i64 a2.Since), (.int .i64 a0.Cond_Unless), (.str a2.Range_Text), (.bool a2.Range_Weak)]), (.agg [(.str a1.Tag_Text), (.bool a1.Tag_Weak), (.int .i64 a1.Modified), (.int .i64 a1.Length), (.int .i64 a1.Have), (.int .i64 a1.Fresh), (.int .i64 a1.While), (.int .i64 a1.Error), (.sl (encL AV.str a1.Keys)), (.str a1.Tenant), (.bool a1.Keep)]), (.bool true)] = Option.map (AV.int .i64) (cond_Check.f (api_Request.mk a0.Head a0.Object a0.Specs a0.Cond_Match a0.Cond_None a0.Cond_AnyMatch true a2.Since a0.Cond_Unless a2.Range_Text a2.Range_Weak) a1 true) := cond_Check.ok (api_Request.mk a0.Head a0.Object a0.Specs a0.Cond_Match a0.Cond_None a0.Cond_AnyMatch true a2.Since a0.Cond_Unless a2.Range_Text a2.Range_Weak) a1 true
                  rcases h32 : cond_Check.f (api_Request.mk a0.Head a0.Object a0.Specs a0.Cond_Match a0.Cond_None a0.Cond_AnyMatch true a2.Since a0.Cond_Unless a2.Range_Text a2.Range_Weak) a1 true with _ | x33
                  · simp only [D, DT, reduceIte, reduceCtorEq, Nat.reduceEqDiff, Nat.reduceAdd, Nat.reduceLT, Nat.reduceLeDiff, Nat.reduceBEq, Int.reduceLE, Int.reduceLT, Int.reduceEq, Int.reduceNeg, c1, h2, h4, c8, h9, h11, h15, h16, h17, c28, h29, c31, h32]
                  · simp only [D, DT, reduceIte, reduceCtorEq, Nat.reduceEqDiff, Nat.reduceAdd, Nat.reduceLT, Nat.reduceLeDiff, Nat.reduceBEq, Int.reduceLE, Int.reduceLT, Int.reduceEq, Int.reduceNeg, c1, h2, h4, c8, h9, h11, h15, h16, h17, c28, h29, c31, h32]
                    cases h34 : ((decide (x30 = 3)) == (decide (x33 = 3)))
                    · simp only [D, DT, reduceIte, reduceCtorEq, Nat.reduceEqDiff, Nat.reduceAdd, Nat.reduceLT, Nat.reduceLeDiff, Nat.reduceBEq, Int.reduceLE, Int.reduceLT, Int.reduceEq, Int.reduceNeg, c1, h2, h4, c8, h9, h11, h15, h16, h17, c28, h29, c31, h32, h34]
                      try rfl
                    · simp only [D, DT, reduceIte, reduceCtorEq, Nat.reduceEqDiff, Nat.reduceAdd, Nat.reduceLT, Nat.reduceLeDiff, Nat.reduceBEq, Int.reduceLE, Int.reduceLT, Int.reduceEq, Int.reduceNeg, c1, h2, h4, c8, h9, h11, h15, h16, h17, c28, h29, c31, h32, h34]
                      have c35 : ansL X 8 [(.agg [(.bool a0.Head), (.str a0.Object), (.sl (encL api_Spec.enc a0.Specs)), (.sl (encL api_Tag.enc a0.Cond_Match)), (.sl (encL api_Tag.enc a2.None)), (.bool a0.Cond_AnyMatch), (.bool a2.AnyNone), (.int .i64 a2.Since), (.int .i64 a0.Cond_Unless), (.str a2.Range_Text), (.bool a2.Range_Weak)]), (.agg [(.str a1.Tag_Text), (.bool a1.Tag_Weak), (.int .i64 a1.Modified), (.int .i64 a1.Length), (.int .i64 a1.Have), (.int .i64 a1.Fresh), (.int .i64 a1.While), (.int .i64 a1.Error), (.sl (encL AV.str a1.Keys)), (.str a1.Tenant), (.bool a1.Keep)]), (.bool true)] = Option.map (AV.int .i64) (cond_Check.f (api_Request.mk a0.Head a0.Object a0.Specs a0.Cond_Match a2.None a0.Cond_AnyMatch a2.AnyNone a2.Since a0.Cond_Unless a2.Range_Text a2.Range_Weak) a1 true) := cond_Check.ok (api_Request.mk a0.Head a0.Object a0.Specs a0.Cond_Match a2.None a0.Cond_AnyMatch a2.AnyNone a2.Since a0.Cond_Unless a2.Range_Text a2.Range_Weak) a1 true
                      rcases h36 : cond_Check.f (api_Request.mk a0.Head a0.Object a0.Specs a0.Cond_Match a2.None a0.Cond_AnyMatch a2.AnyNone a2.Since a0.Cond_Unless a2.Range_Text a2.Range_Weak) a1 true with _ | x37
                      · simp only [D, DT, reduceIte, reduceCtorEq, Nat.reduceEqDiff, Nat.reduceAdd, Nat.reduceLT, Nat.reduceLeDiff, Nat.reduceBEq, Int.reduceLE, Int.reduceLT, Int.reduceEq, Int.reduceNeg, c1, h2, h4, c8, h9, h11, h15, h16, h17, c28, h29, c31, h32, h34, c35, h36]
                      · simp only [D, DT, reduceIte, reduceCtorEq, Nat.reduceEqDiff, Nat.reduceAdd, Nat.reduceLT, Nat.reduceLeDiff, Nat.reduceBEq, Int.reduceLE, Int.reduceLT, Int.reduceEq, Int.reduceNeg, c1, h2, h4, c8, h9, h11, h15, h16, h17, c28, h29, c31, h32, h34, c35, h36]
                        cases h38 : ((decide (x30 = 4)) == (decide (x37 = 4)))
                        · simp only [D, DT, reduceIte, reduceCtorEq, Nat.reduceEqDiff, Nat.reduceAdd, Nat.reduceLT, Nat.reduceLeDiff, Nat.reduceBEq, Int.reduceLE, Int.reduceLT, Int.reduceEq, Int.reduceNeg, c1, h2, h4, c8, h9, h11, h15, h16, h17, c28, h29, c31, h32, h34, c35, h36, h38]
                          try rfl
                        · simp only [D, DT, reduceIte, reduceCtorEq, Nat.reduceEqDiff, Nat.reduceAdd, Nat.reduceLT, Nat.reduceLeDiff, Nat.reduceBEq, Int.reduceLE, Int.reduceLT, Int.reduceEq, Int.reduceNeg, c1, h2, h4, c8, h9, h11, h15, h16, h17, c28, h29, c31, h32, h34, c35, h36, h38]
                          have c39 : ansL X 7 [] = Option.map AV.bool (mandolinelaw08_awake.f) := mandolinelaw08_awake.ok
                          rcases h40 : mandolinelaw08_awake.f with _ | x41
                          · simp only [D, DT, reduceIte, reduceCtorEq, Nat.reduceEqDiff, Nat.reduceAdd, Nat.reduceLT, Nat.reduceLeDiff, Nat.reduceBEq, Int.reduceLE, Int.reduceLT, Int.reduceEq, Int.reduceNeg, c1, h2, h4, c8, h9, h11, h15, h16, h17, c28, h29, c31, h32, h34, c35, h36, h38, c39, h40]
                          · simp only [D, DT, reduceIte, reduceCtorEq, Nat.reduceEqDiff, Nat.reduceAdd, Nat.reduceLT, Nat.reduceLeDiff, Nat.reduceBEq, Int.reduceLE, Int.reduceLT, Int.reduceEq, Int.reduceNeg, c1, h2, h4, c8, h9, h11, h15, h16, h17, c28, h29, c31, h32, h34, c35, h36, h38, c39, h40]
                            try rfl
            · simp only [D, DT, reduceIte, reduceCtorEq, Nat.reduceEqDiff, Nat.reduceAdd, Nat.reduceLT, Nat.reduceLeDiff, Nat.reduceBEq, Int.reduceLE, Int.reduceLT, Int.reduceEq, Int.reduceNeg, c1, h2, h4, c8, h9, h11, h15, h16]
              have c42 : ansL X 8 [(.agg [(.bool a0.Head), (.str a0.Object), (.sl (encL api_Spec.enc a0.Specs)), (.sl (encL api_Tag.enc a0.Cond_Match)), (.sl (encL api_Tag.enc a0.Cond_None)), (.bool a0.Cond_AnyMatch), (.bool a0.Cond_AnyNone), (.int .i64 a0.Cond_Since), (.int .i64 a0.Cond_Unless), (.str a0.Cond_Range_Text), (.bool a0.Cond_Range_Weak)]), (.agg [(.str a1.Tag_Text), (.bool a1.Tag_Weak), (.int .i64 a1.Modified), (.int .i64 a1.Length), (.int .i64 a1.Have), (.int .i64 a1.Fresh), (.int .i64 a1.While), (.int .i64 a1.Error), (.sl (encL AV.str a1.Keys)), (.str a1.Tenant), (.bool a1.Keep)]), (.bool true)] = Option.map (AV.int .i64) (cond_Check.f a0 a1 true) := cond_Check.ok a0 a1 true
              rcases h43 : cond_Check.f a0 a1 true with _ | x44
              · simp only [D, DT, reduceIte, reduceCtorEq, Nat.reduceEqDiff, Nat.reduceAdd, Nat.reduceLT, Nat.reduceLeDiff, Nat.reduceBEq, Int.reduceLE, Int.reduceLT, Int.reduceEq, Int.reduceNeg, c1, h2, h4, c8, h9, h11, h15, h16, c42, h43]
              · simp only [D, DT, reduceIte, reduceCtorEq, Nat.reduceEqDiff, Nat.reduceAdd, Nat.reduceLT, Nat.reduceLeDiff, Nat.reduceBEq, Int.reduceLE, Int.reduceLT, Int.reduceEq, Int.reduceNeg, c1, h2, h4, c8, h9, h11, h15, h16, c42, h43]
                have c45 : ansL X 8 [(.agg [(.bool a0.Head), (.str a0.Object), (.sl (encL api_Spec.enc a0.Specs)), (.sl (encL api_Tag.enc a0.Cond_Match)), (.sl (encL api_Tag.enc a0.Cond_None)), (.bool a0.Cond_AnyMatch), (.bool a0.Cond_AnyNone), (.int .i64 a2.Since), (.int .i64 a0.Cond_Unless), (.str a2.Range_Text), (.bool a2.Range_Weak)]), (.agg [(.str a1.Tag_Text), (.bool a1.Tag_Weak), (.int .i64 a1.Modified), (.int .i64 a1.Length), (.int .i64 a1.Have), (.int .i64 a1.Fresh), (.int .i64 a1.While), (.int .i64 a1.Error), (.sl (encL AV.str a1.Keys)), (.str a1.Tenant), (.bool a1.Keep)]), (.bool true)] = Option.map (AV.int .i64) (cond_Check.f (api_Request.mk a0.Head a0.Object a0.Specs a0.Cond_Match a0.Cond_None a0.Cond_AnyMatch a0.Cond_AnyNone a2.Since a0.Cond_Unless a2.Range_Text a2.Range_Weak) a1 true) := cond_Check.ok (api_Request.mk a0.Head a0.Object a0.Specs a0.Cond_Match a0.Cond_None a0.Cond_AnyMatch a0.Cond_AnyNone a2.Since a0.Cond_Unless a2.Range_Text a2.Range_Weak) a1 true
                rcases h46 : cond_Check.f (api_Request.mk a0.Head a0.Object a0.Specs a0.Cond_Match a0.Cond_None a0.Cond_AnyMatch a0.Cond_AnyNone a2.Since a0.Cond_Unless a2.Range_Text a2.Range_Weak) a1 true with _ | x47
                · simp only [D, DT, reduceIte, reduceCtorEq, Nat.reduceEqDiff, Nat.reduceAdd, Nat.reduceLT, Nat.reduceLeDiff, Nat.reduceBEq, Int.reduceLE, Int.reduceLT, Int.reduceEq, Int.reduceNeg, c1, h2, h4, c8, h9, h11, h15, h16, c42, h43, c45, h46]
                · simp only [D, DT, reduceIte, reduceCtorEq, Nat.reduceEqDiff, Nat.reduceAdd, Nat.reduceLT, Nat.reduceLeDiff, Nat.reduceBEq, Int.reduceLE, Int.reduceLT, Int.reduceEq, Int.reduceNeg, c1, h2, h4, c8, h9, h11, h15, h16, c42, h43, c45, h46]
                  cases h48 : ((decide (x44 = 3)) == (decide (x47 = 3)))
                  · simp only [D, DT, reduceIte, reduceCtorEq, Nat.reduceEqDiff, Nat.reduceAdd, Nat.reduceLT, Nat.reduceLeDiff, Nat.reduceBEq, Int.reduceLE, Int.reduceLT, Int.reduceEq, Int.reduceNeg, c1, h2, h4, c8, h9, h11, h15, h16, c42, h43, c45, h46, h48]
                    try rfl
                  · simp only [D, DT, reduceIte, reduceCtorEq, Nat.reduceEqDiff, Nat.reduceAdd, Nat.reduceLT, Nat.reduceLeDiff, Nat.reduceBEq, Int.reduceLE, Int.reduceLT, Int.reduceEq, Int.reduceNeg, c1, h2, h4, c8, h9, h11, h15, h16, c42, h43, c45, h46, h48]
                    have c49 : ansL X 8 [(.agg [(.bool a0.Head), (.str a0.Object), (.sl (encL api_Spec.enc a0.Specs)), (.sl (encL api_Tag.enc a0.Cond_Match)), (.sl (encL api_Tag.enc a2.None)), (.bool a0.Cond_AnyMatch), (.bool a2.AnyNone), (.int .i64 a2.Since), (.int .i64 a0.Cond_Unless), (.str a2.Range_Text), (.bool a2.Range_Weak)]), (.agg [(.str a1.Tag_Text), (.bool a1.Tag_Weak), (.int .i64 a1.Modified), (.int .i64 a1.Length), (.int .i64 a1.Have), (.int .i64 a1.Fresh), (.int .i64 a1.While), (.int .i64 a1.Error), (.sl (encL AV.str a1.Keys)), (.str a1.Tenant), (.bool a1.Keep)]), (.bool true)] = Option.map (AV.int .i64) (cond_Check.f (api_Request.mk a0.Head a0.Object a0.Specs a0.Cond_Match a2.None a0.Cond_AnyMatch a2.AnyNone a2.Since a0.Cond_Unless a2.Range_Text a2.Range_Weak) a1 true) := cond_Check.ok (api_Request.mk a0.Head a0.Object a0.Specs a0.Cond_Match a2.None a0.Cond_AnyMatch a2.AnyNone a2.Since a0.Cond_Unless a2.Range_Text a2.Range_Weak) a1 true
                    rcases h50 : cond_Check.f (api_Request.mk a0.Head a0.Object a0.Specs a0.Cond_Match a2.None a0.Cond_AnyMatch a2.AnyNone a2.Since a0.Cond_Unless a2.Range_Text a2.Range_Weak) a1 true with _ | x51
                    · simp only [D, DT, reduceIte, reduceCtorEq, Nat.reduceEqDiff, Nat.reduceAdd, Nat.reduceLT, Nat.reduceLeDiff, Nat.reduceBEq, Int.reduceLE, Int.reduceLT, Int.reduceEq, Int.reduceNeg, c1, h2, h4, c8, h9, h11, h15, h16, c42, h43, c45, h46, h48, c49, h50]
                    · simp only [D, DT, reduceIte, reduceCtorEq, Nat.reduceEqDiff, Nat.reduceAdd, Nat.reduceLT, Nat.reduceLeDiff, Nat.reduceBEq, Int.reduceLE, Int.reduceLT, Int.reduceEq, Int.reduceNeg, c1, h2, h4, c8, h9, h11, h15, h16, c42, h43, c45, h46, h48, c49, h50]
                      cases h52 : ((decide (x44 = 4)) == (decide (x51 = 4)))
                      · simp only [D, DT, reduceIte, reduceCtorEq, Nat.reduceEqDiff, Nat.reduceAdd, Nat.reduceLT, Nat.reduceLeDiff, Nat.reduceBEq, Int.reduceLE, Int.reduceLT, Int.reduceEq, Int.reduceNeg, c1, h2, h4, c8, h9, h11, h15, h16, c42, h43, c45, h46, h48, c49, h50, h52]
                        try rfl
                      · simp only [D, DT, reduceIte, reduceCtorEq, Nat.reduceEqDiff, Nat.reduceAdd, Nat.reduceLT, Nat.reduceLeDiff, Nat.reduceBEq, Int.reduceLE, Int.reduceLT, Int.reduceEq, Int.reduceNeg, c1, h2, h4, c8, h9, h11, h15, h16, c42, h43, c45, h46, h48, c49, h50, h52]
                        have c53 : ansL X 7 [] = Option.map AV.bool (mandolinelaw08_awake.f) := mandolinelaw08_awake.ok
                        rcases h54 : mandolinelaw08_awake.f with _ | x55
                        · simp only [D, DT, reduceIte, reduceCtorEq, Nat.reduceEqDiff, Nat.reduceAdd, Nat.reduceLT, Nat.reduceLeDiff, Nat.reduceBEq, Int.reduceLE, Int.reduceLT, Int.reduceEq, Int.reduceNeg, c1, h2, h4, c8, h9, h11, h15, h16, c42, h43, c45, h46, h48, c49, h50, h52, c53, h54]
                        · simp only [D, DT, reduceIte, reduceCtorEq, Nat.reduceEqDiff, Nat.reduceAdd, Nat.reduceLT, Nat.reduceLeDiff, Nat.reduceBEq, Int.reduceLE, Int.reduceLT, Int.reduceEq, Int.reduceNeg, c1, h2, h4, c8, h9, h11, h15, h16, c42, h43, c45, h46, h48, c49, h50, h52, c53, h54]
                          try rfl
          · simp only [D, DT, reduceIte, reduceCtorEq, Nat.reduceEqDiff, Nat.reduceAdd, Nat.reduceLT, Nat.reduceLeDiff, Nat.reduceBEq, Int.reduceLE, Int.reduceLT, Int.reduceEq, Int.reduceNeg, c1, h2, h4, c8, h9, h11, h15]
            have c56 : ansL X 7 [] = Option.map AV.bool (mandolinelaw08_awake.f) := mandolinelaw08_awake.ok
            rcases h57 : mandolinelaw08_awake.f with _ | x58
            · simp only [D, DT, reduceIte, reduceCtorEq, Nat.reduceEqDiff, Nat.reduceAdd, Nat.reduceLT, Nat.reduceLeDiff, Nat.reduceBEq, Int.reduceLE, Int.reduceLT, Int.reduceEq, Int.reduceNeg, c1, h2, h4, c8, h9, h11, h15, c56, h57]
            · simp only [D, DT, reduceIte, reduceCtorEq, Nat.reduceEqDiff, Nat.reduceAdd, Nat.reduceLT, Nat.reduceLeDiff, Nat.reduceBEq, Int.reduceLE, Int.reduceLT, Int.reduceEq, Int.reduceNeg, c1, h2, h4, c8, h9, h11, h15, c56, h57]
              try rfl
noncomputable def mandolinelaw08_CondStrict.f (a0 : api_Tag) (a1 : api_Tag) (a2 : (List api_Spec)) : Option Bool :=
  (mandolineref05_Right.f a0).bind fun x3 =>
  bif x3 then
    (mandolineref05_Right.f a1).bind fun x10 =>
    bif x10 then
      bif (decide ((200 : Int) < (a0.Text.length : Int))) then
        (mandolinelaw08_awake.f).bind fun x56 =>
        some x56
      else
        bif (decide ((200 : Int) < (a1.Text.length : Int))) then
          (mandolinelaw08_awake.f).bind fun x53 =>
          some x53
        else
          bif (decide ((70 : Int) < (a2.length : Int))) then
            (mandolinelaw08_awake.f).bind fun x50 =>
            some x50
          else
            bif (decide ((a2.length : Int) = 0)) then
              (mandolinelaw08_awake.f).bind fun x47 =>
              some x47
            else
              (cond_None.f).bind fun x21 =>
              bif ((a0.Text == a1.Text) && (a0.Weak == a1.Weak)) then
                (cond_Check.f (api_Request.mk false [] a2 x21.Match x21.None x21.AnyMatch x21.AnyNone x21.Since x21.Unless a0.Text a0.Weak) (api_Meta.mk a1.Text a1.Weak (-1) 9 0 0 0 0 [] [] false) true).bind fun x36 =>
                bif ((decide (x36 = 1)) == (!a0.Weak)) then
                  (cond_Check.f (api_Request.mk false [] a2 [a0] x21.None x21.AnyMatch x21.AnyNone x21.Since x21.Unless x21.Range_Text x21.Range_Weak) (api_Meta.mk a1.Text a1.Weak (-1) 9 0 0 0 0 [] [] false) true).bind fun x40 =>
                  bif ((decide (x40 = 1)) == (!a0.Weak)) then
                    (mandolinelaw08_awake.f).bind fun x44 =>
                    some x44
                  else
                    some false
                else
                  some false
              else
                (cond_Check.f (api_Request.mk false [] a2 x21.Match x21.None x21.AnyMatch x21.AnyNone x21.Since x21.Unless a0.Text a0.Weak) (api_Meta.mk a1.Text a1.Weak (-1) 9 0 0 0 0 [] [] false) true).bind fun x25 =>
                bif ((decide (x25 = 1)) == false) then
                  (cond_Check.f (api_Request.mk false [] a2 [a0] x21.None x21.AnyMatch x21.AnyNone x21.Since x21.Unless x21.Range_Text x21.Range_Weak) (api_Meta.mk a1.Text a1.Weak (-1) 9 0 0 0 0 [] [] false) true).bind fun x29 =>
                  bif ((decide (x29 = 1)) == false) then
                    (mandolinelaw08_awake.f).bind fun x33 =>
                    some x33
                  else
                    some false
                else
                  some false
    else
      (mandolinelaw08_awake.f).bind fun x14 =>
      some x14
  else
    (mandolinelaw08_awake.f).bind fun x7 =>
    some x7
set_option maxHeartbeats 4000000 in
theorem mandolinelaw08_CondStrict.ok (a0 : api_Tag) (a1 : api_Tag) (a2 : (List api_Spec)) : ansL X 5 [(.agg [(.str a0.Text), (.bool a0.Weak)]), (.agg [(.str a1.Text), (.bool a1.Weak)]), (.sl (encL api_Spec.enc a2))] = Option.map AV.bool (mandolinelaw08_CondStrict.f a0 a1 a2) := by
  rw [ansL_run (fd := c5) rfl rfl]
  simp only [D, DT, reduceIte, reduceCtorEq, Nat.reduceEqDiff, Nat.reduceAdd, Nat.reduceLT, Nat.reduceLeDiff, Nat.reduceBEq, Int.reduceLE, Int.reduceLT, Int.reduceEq, Int.reduceNeg, c5, mandolinelaw08_CondStrict.f]
  have c1 : ansL X 10 [(.agg [(.str a0.Text), (.bool a0.Weak)])] = Option.map AV.bool (mandolineref05_Right.f a0) := mandolineref05_Right.ok a0
  rcases h2 : mandolineref05_Right.f a0 with _ | x3
  · simp only [D, DT, reduceIte, reduceCtorEq, Nat.reduceEqDiff, Nat.reduceAdd, Nat.reduceLT, Nat.reduceLeDiff, Nat.reduceBEq, Int.reduceLE, Int.reduceLT, Int.reduceEq, Int.reduceNeg, c1, h2]
  · simp only [D, DT, reduceIte, reduceCtorEq, Nat.reduceEqDiff, Nat.reduceAdd, Nat.reduceLT, Nat.reduceLeDiff, Nat.reduceBEq, Int.reduceLE, Int.reduceLT, Int.reduceEq, Int.reduceNeg, c1, h2]
    cases h4 : x3
    · simp only [D, DT, reduceIte, reduceCtorEq, Nat.reduceEqDiff, Nat.reduceAdd, Nat.reduceLT, Nat.reduceLeDiff, Nat.reduceBEq, Int.reduceLE, Int.reduceLT, Int.reduceEq, Int.reduceNeg, c1, h2, h4]
      have c5 : ansL X 7 [] = Option.map AV.bool (mandolinelaw08_awake.f) := mandolinelaw08_awake.ok
      rcases h6 : mandolinelaw08_awake.f with _ | x7
      · simp only [D, DT, reduceIte, reduceCtorEq, Nat.reduceEqDiff, Nat.reduceAdd, Nat.reduceLT, Nat.reduceLeDiff, Nat.reduceBEq, Int.reduceLE, Int.reduceLT, Int.reduceEq, Int.reduceNeg, c1, h2, h4, c5, h6]
      · simp only [D, DT, reduceIte, reduceCtorEq, Nat.reduceEqDiff, Nat.reduceAdd, Nat.reduceLT, Nat.reduceLeDiff, Nat.reduceBEq, Int.reduceLE, Int.reduceLT, Int.reduceEq, Int.reduceNeg, c1, h2, h4, c5, h6]
        try rfl
    · simp only [D, DT, reduceIte, reduceCtorEq, Nat.reduceEqDiff, Nat.reduceAdd, Nat.reduceLT, Nat.reduceLeDiff, Nat.reduceBEq, Int.reduceLE, Int.reduceLT, Int.reduceEq, Int.reduceNeg, c1, h2, h4]
      have c8 : ansL X 10 [(.agg [(.str a1.Text), (.bool a1.Weak)])] = Option.map AV.bool (mandolineref05_Right.f a1) := mandolineref05_Right.ok a1
      rcases h9 : mandolineref05_Right.f a1 with _ | x10
      · simp only [D, DT, reduceIte, reduceCtorEq, Nat.reduceEqDiff, Nat.reduceAdd, Nat.reduceLT, Nat.reduceLeDiff, Nat.reduceBEq, Int.reduceLE, Int.reduceLT, Int.reduceEq, Int.reduceNeg, c1, h2, h4, c8, h9]
      · simp only [D, DT, reduceIte, reduceCtorEq, Nat.reduceEqDiff, Nat.reduceAdd, Nat.reduceLT, Nat.reduceLeDiff, Nat.reduceBEq, Int.reduceLE, Int.reduceLT, Int.reduceEq, Int.reduceNeg, c1, h2, h4, c8, h9]
        cases h11 : x10
        · simp only [D, DT, reduceIte, reduceCtorEq, Nat.reduceEqDiff, Nat.reduceAdd, Nat.reduceLT, Nat.reduceLeDiff, Nat.reduceBEq, Int.reduceLE, Int.reduceLT, Int.reduceEq, Int.reduceNeg, c1, h2, h4, c8, h9, h11]
          have c12 : ansL X 7 [] = Option.map AV.bool (mandolinelaw08_awake.f) := mandolinelaw08_awake.ok
          rcases h13 : mandolinelaw08_awake.f with _ | x14
          · simp only [D, DT, reduceIte, reduceCtorEq, Nat.reduceEqDiff, Nat.reduceAdd, Nat.reduceLT, Nat.reduceLeDiff, Nat.reduceBEq, Int.reduceLE, Int.reduceLT, Int.reduceEq, Int.reduceNeg, c1, h2, h4, c8, h9, h11, c12, h13]
          · simp only [D, DT, reduceIte, reduceCtorEq, Nat.reduceEqDiff, Nat.reduceAdd, Nat.reduceLT, Nat.reduceLeDiff, Nat.reduceBEq, Int.reduceLE, Int.reduceLT, Int.reduceEq, Int.reduceNeg, c1, h2, h4, c8, h9, h11, c12, h13]
            try rfl
        · simp only [D, DT, reduceIte, reduceCtorEq, Nat.reduceEqDiff, Nat.reduceAdd, Nat.reduceLT, Nat.reduceLeDiff, Nat.reduceBEq, Int.reduceLE, Int.reduceLT, Int.reduceEq, Int.reduceNeg, c1, h2, h4, c8, h9, h11]
          cases h15 : (decide ((200 : Int) < (a0.Text.length : Int)))
          · simp only [D, DT, reduceIte, reduceCtorEq, Nat.reduceEqDiff, Nat.reduceAdd, Nat.reduceLT, Nat.reduceLeDiff, Nat.reduceBEq, Int.reduceLE, Int.reduceLT, Int.reduceEq, Int.reduceNeg, c1, h2, h4, c8, h9, h11, h15]
            cases h16 : (decide ((200 : Int) < (a1.Text.length : Int)))
            · simp only [D, DT, reduceIte, reduceCtorEq, Nat.reduceEqDiff, Nat.reduceAdd, Nat.reduceLT, Nat.reduceLeDiff, Nat.reduceBEq, Int.reduceLE, Int.reduceLT, Int.reduceEq, Int.reduceNeg, c1, h2, h4, c8, h9, h11, h15, h16]
              cases h17 : (decide ((70 : Int) < (a2.length : Int)))
              · simp only [D, DT, reduceIte, reduceCtorEq, Nat.reduceEqDiff, Nat.reduceAdd, Nat.reduceLT, Nat.reduceLeDiff, Nat.reduceBEq, Int.reduceLE, Int.reduceLT, Int.reduceEq, Int.reduceNeg, c1, h2, h4, c8, h9, h11, h15, h16, h17]
                cases h18 : (decide ((a2.length : Int) = 0))
                · simp only [D, DT, reduceIte, reduceCtorEq, Nat.reduceEqDiff, Nat.reduceAdd, Nat.reduceLT, Nat.reduceLeDiff, Nat.reduceBEq, Int.reduceLE, Int.reduceLT, Int.reduceEq, Int.reduceNeg, c1, h2, h4, c8, h9, h11, h15, h16, h17, h18]
                  have c19 : ansL X 11 [] = Option.map api_Cond.enc (cond_None.f) := cond_None.ok
                  rcases h20 : cond_None.f with _ | x21
                  · simp only [D, DT, reduceIte, reduceCtorEq, Nat.reduceEqDiff, Nat.reduceAdd, Nat.reduceLT, Nat.reduceLeDiff, Nat.reduceBEq, Int.reduceLE, Int.reduceLT, Int.reduceEq, Int.reduceNeg, c1, h2, h4, c8, h9, h11, h15, h16, h17, h18, c19, h20]
                  · simp only [D, DT, reduceIte, reduceCtorEq, Nat.reduceEqDiff, Nat.reduceAdd, Nat.reduceLT, Nat.reduceLeDiff, Nat.reduceBEq, Int.reduceLE, Int.reduceLT, Int.reduceEq, Int.reduceNeg, c1, h2, h4, c8, h9, h11, h15, h16, h17, h18, c19, h20]
                    cases h22 : ((a0.Text == a1.Text) && (a0.Weak == a1.Weak))
                    · simp only [D, DT, reduceIte, reduceCtorEq, Nat.reduceEqDiff, Nat.reduceAdd, Nat.reduceLT, Nat.reduceLeDiff, Nat.reduceBEq, Int.reduceLE, Int.reduceLT, Int.reduceEq, Int.reduceNeg, c1, h2, h4, c8, h9, h11, h15, h16, h17, h18, c19, h20, h22]
                      have c23 : ansL X 8 [(.agg [(.bool false), (.str []), (.sl (encL api_Spec.enc a2)), (.sl (encL api_Tag.enc x21.Match)), (.sl (encL api_Tag.enc x21.None)), (.bool x21.AnyMatch), (.bool x21.AnyNone), (.int .i64 x21.Since), (.int .i64 x21.Unless), (.str a0.Text), (.bool a0.Weak)]), (.agg [(.str a1.Text), (.bool a1.Weak), (.int .i64 (-1)), (.int .i64 9), (.int .i64 0), (.int .i64 0), (.int .i64 0), (.int .i64 0), (.sl []), (.str []), (.bool false)]), (.bool true)] = Option.map (AV.int .i64) (cond_Check.f (api_Request.mk false [] a2 x21.Match x21.None x21.AnyMatch x21.AnyNone x21.Since x21.Unless a0.Text a0.Weak) (api_Meta.mk a1.Text a1.Weak (-1) 9 0 0 0 0 [] [] false) true) := cond_Check.ok (api_Request.mk false [] a2 x21.Match x21.None x21.AnyMatch x21.AnyNone x21.Since x21.Unless a0.Text a0.Weak) (api_Meta.mk a1.Text a1.Weak (-1) 9 0 0 0 0 [] [] false) true
                      rcases h24 : cond_Check.f (api_Request.mk false [] a2 x21.Match x21.None x21.AnyMatch x21.AnyNone x21.Since x21.Unless a0.Text a0.Weak) (api_Meta.mk a1.Text a1.Weak (-1) 9 0 0 0 0 [] [] false) true with _ | x25
                      · simp only [D, DT, reduceIte, reduceCtorEq, Nat.reduceEqDiff, Nat.reduceAdd, Nat.reduceLT, Nat.reduceLeDiff, Nat.reduceBEq, Int.reduceLE, Int.reduceLT, Int.reduceEq, Int.reduceNeg, c1, h2, h4, c8, h9, h11, h15, h16, h17, h18, c19, h20, h22, c23, h24]
                      · simp only [D, DT, reduceIte, reduceCtorEq, Nat.reduceEqDiff, Nat.reduceAdd, Nat.reduceLT, Nat.reduceLeDiff, Nat.reduceBEq, Int.reduceLE, Int.reduceLT, Int.reduceEq, Int.reduceNeg, c1, h2, h4, c8, h9, h11, h15, h16, h17, h18, c19, h20, h22, c23, h24]
                        cases h26 : ((decide (x25 = 1)) == false)
                        · simp only [D, DT, reduceIte, reduceCtorEq, Nat.reduceEqDiff, Nat.reduceAdd, Nat.reduceLT, Nat.reduceLeDiff, Nat.reduceBEq, Int.reduceLE, Int.reduceLT, Int.reduceEq, Int.reduceNeg, c1, h2, h4, c8, h9, h11, h15, h16, h17, h18, c19, h20, h22, c23, h24, h26]
                          try rfl
                        · simp only [D, DT, reduceIte, reduceCtorEq, Nat.reduceEqDiff, Nat.reduceAdd, Nat.reduceLT, Nat.reduceLeDiff, Nat.reduceBEq, Int.reduceLE, Int.reduceLT, Int.reduceEq, Int.reduceNeg, c1, h2, h4, c8, h9, h11, h15, h16, h17, h18, c19, h20, h22, c23, h24, h26]
                          have c27 : ansL X 8 [(.agg [(.bool false), (.str []), (.sl (encL api_Spec.enc a2)), (.sl [(.agg [(.str a0.Text), (.bool a0.Weak)])]), (.sl (encL api_Tag.enc x21.None)), (.bool x21.AnyMatch), (.bool x21.AnyNone), (.int .i64 x21.Since), (.int .i64 x21.Unless), (.str x21.Range_Text), (.bool x21.Range_Weak)]), (.agg [(.str a1.Text), (.bool a1.Weak), (.int .i64 (-1)), (.int .i64 9), (.int .i64 0), (.int .i64 0), (.int .i64 0), (.int .i64 0), (.sl []), (.str []), (.bool false)]), (.bool true)] = Option.map (AV.int .i64) (cond_Check.f (api_Request.mk false [] a2 [a0] x21.None x21.AnyMatch x21.AnyNone x21.Since x21.Unless x21.Range_Text x21.Range_Weak) (api_Meta.mk a1.Text a1.Weak (-1) 9 0 0 0 0 [] [] false) true) := cond_Check.ok (api_Request.mk false [] a2 [a0] x21.None x21.AnyMatch x21.AnyNone x21.Since x21.Unless x21.Range_Text x21.Range_Weak) (api_Meta.mk a1.Text a1.Weak (-1) 9 0 0 0 0 [] [] false) true
                          rcases h28 : cond_Check.f (api_Request.mk false [] a2 [a0] x21.None x21.AnyMatch x21.AnyNone x21.Since x21.Unless x21.Range_Text x21.Range_Weak) (api_Meta.mk a1.Text a1.Weak (-1) 9 0 0 0 0 [] [] false) true with _ | x29
                          · simp only [D, DT, reduceIte, reduceCtorEq, Nat.reduceEqDiff, Nat.reduceAdd, Nat.reduceLT, Nat.reduceLeDiff, Nat.reduceBEq, Int.reduceLE, Int.reduceLT, Int.reduceEq, Int.reduceNeg, c1, h2, h4, c8, h9, h11, h15, h16, h17, h18, c19, h20, h22, c23, h24, h26, c27, h28]
                          · simp only [D, DT, reduceIte, reduceCtorEq, Nat.reduceEqDiff, Nat.reduceAdd, Nat.reduceLT, Nat.reduceLeDiff, Nat.reduceBEq, Int.reduceLE, Int.reduceLT, Int.reduceEq, Int.reduceNeg, c1, h2, h4, c8, h9, h11, h15, h16, h17, h18, c19, h20, h22, c23, h24, h26, c27, h28]
                            cases h30 : ((decide (x29 = 1)) == false)
                            · simp only [D, DT, reduceIte, reduceCtorEq, Nat.reduceEqDiff, Nat.reduceAdd, Nat.reduceLT, Nat.reduceLeDiff, Nat.reduceBEq, Int.reduceLE, Int.reduceLT, Int.reduceEq, Int.reduceNeg, c1, h2, h4, c8, h9, h11, h15, h16, h17, h18, c19, h20, h22, c23, h24, h26, c27, h28, h30]
                              try rfl
                            · simp only [D, DT, reduceIte, reduceCtorEq, Nat.reduceEqDiff, Nat.reduceAdd, Nat.reduceLT, Nat.reduceLeDiff, Nat.reduceBEq, Int.reduceLE, Int.reduceLT, Int.reduceEq, Int.reduceNeg, c1, h2, h4, c8, h9, h11, h15, h16, h17, h18, c19, h20, h22, c23, h24, h26, c27, h28, h30]
                              have c31 : ansL X 7 [] = Option.map AV.bool (mandolinelaw08_awake.f) := mandolinelaw08_awake.ok
                              rcases h32 : mandolinelaw08_awake.f with _ | x33
                              · simp only [D, DT, reduceIte, reduceCtorEq, Nat.reduceEqDiff, Nat.reduceAdd, Nat.reduceLT, Nat.reduceLeDiff, Nat.reduceBEq, Int.reduceLE, Int.reduceLT, Int.reduceEq, Int.reduceNeg, c1, h2, h4, c8, h9, h11, h15, h16, h17, h18, c19, h20, h22, c23, h24, h26, c27, h28, h30, c31, h32]
                              · simp only [D, DT, reduceIte, reduceCtorEq, Nat.reduceEqDiff, Nat.reduceAdd, Nat.reduceLT, Nat.reduceLeDiff, Nat.reduceBEq, Int.reduceLE, Int.reduceLT, Int.reduceEq, Int.reduceNeg, c1, h2, h4, c8, h9, h11, h15, h16, h17, h18, c19, h20, h22, c23, h24, h26, c27, h28, h30, c31, h32]
                                try rfl
                    · simp only [D, DT, reduceIte, reduceCtorEq, Nat.reduceEqDiff, Nat.reduceAdd, Nat.reduceLT, Nat.reduceLeDiff, Nat.reduceBEq, Int.reduceLE, Int.reduceLT, Int.reduceEq, Int.reduceNeg, c1, h2, h4, c8, h9, h11, h15, h16, h17, h18, c19, h20, h22]
                      have c34 : ansL X 8 [(.agg [(.bool false), (.str []), (.sl (encL api_Spec.enc a2)), (.sl (encL api_Tag.enc x21.Match)), (.sl (encL api_Tag.enc x21.None)), (.bool x21.AnyMatch), (.bool x21.AnyNone), (.int .i64 x21.Since), (.int .i64 x21.Unless), (.str a0.Text), (.bool a0.Weak)]), (.agg [(.str a1.Text), (.bool a1.Weak), (.int .i64 (-1)), (.int .i64 9), (.int .i64 0), (.int .i64 0), (.int .i64 0), (.int .i64 0), (.sl []), (.str []), (.bool false)]), (.bool true)] = Option.map (AV.int .i64) (cond_Check.f (api_Request.mk false [] a2 x21.Match x21.None x21.AnyMatch x21.AnyNone x21.Since x21.Unless a0.Text a0.Weak) (api_Meta.mk a1.Text a1.Weak (-1) 9 0 0 0 0 [] [] false) true) := cond_Check.ok (api_Request.mk false [] a2 x21.Match x21.None x21.AnyMatch x21.AnyNone x21.Since x21.Unless a0.Text a0.Weak) (api_Meta.mk a1.Text a1.Weak (-1) 9 0 0 0 0 [] [] false) true
                      rcases h35 : cond_Check.f (api_Request.mk false [] a2 x21.Match x21.None x21.AnyMatch x21.AnyNone x21.Since x21.Unless a0.Text a0.Weak) (api_Meta.mk a1.Text a1.Weak (-1) 9 0 0 0 0 [] [] false) true with _ | x36
                      · simp only [D, DT, reduceIte, reduceCtorEq, Nat.reduceEqDiff, Nat.reduceAdd, Nat.reduceLT, Nat.reduceLeDiff, Nat.reduceBEq, Int.reduceLE, Int.reduceLT, Int.reduceEq, Int.reduceNeg, c1, h2, h4, c8, h9, h11, h15, h16, h17, h18, c19, h20, h22, c34, h35]
                      · simp only [D, DT, reduceIte, reduceCtorEq, Nat.reduceEqDiff, Nat.reduceAdd, Nat.reduceLT, Nat.reduceLeDiff, Nat.reduceBEq, Int.reduceLE, Int.reduceLT, Int.reduceEq, Int.reduceNeg, c1, h2, h4, c8, h9, h11, h15, h16, h17, h18, c19, h20, h22, c34, h35]
                        cases h37 : ((decide (x36 = 1)) == (!a0.Weak))
                        · simp only [D, DT, reduceIte, reduceCtorEq, Nat.reduceEqDiff, Nat.reduceAdd, Nat.reduceLT, Nat.reduceLeDiff, Nat.reduceBEq, Int.reduceLE, Int.reduceLT, Int.reduceEq, Int.reduceNeg, c1, h2, h4, c8, h9, h11, h15, h16, h17, h18, c19, h20, h22, c34, h35, h37]
                          try rfl
                        · simp only [D, DT, reduceIte, reduceCtorEq, Nat.reduceEqDiff, Nat.reduceAdd, Nat.reduceLT, Nat.reduceLeDiff, Nat.reduceBEq, Int.reduceLE, Int.reduceLT, Int.reduceEq, Int.reduceNeg, c1, h2, h4, c8, h9, h11, h15, h16, h17, h18, c19, h20, h22, c34, h35, h37]
                          have c38 : ansL X 8 [(.agg [(.bool false), (.str []), (.sl (encL api_Spec.enc a2)), (.sl [(.agg [(.str a0.Text), (.bool a0.Weak)])]), (.sl (encL api_Tag.enc x21.None)), (.bool x21.AnyMatch), (.bool x21.AnyNone), (.int .i64 x21.Since), (.int .i64 x21.Unless), (.str x21.Range_Text), (.bool x21.Range_Weak)]), (.agg [(.str a1.Text), (.bool a1.Weak), (.int .i64 (-1)), (.int .i64 9), (.int .i64 0), (.int .i64 0), (.int .i64 0), (.int .i64 0), (.sl []), (.str []), (.bool false)]), (.bool true)] = Option.map (AV.int .i64) (cond_Check.f (api_Request.mk false [] a2 [a0] x21.None x21.AnyMatch x21.AnyNone x21.Since x21.Unless x21.Range_Text x21.Range_Weak) (api_Meta.mk a1.Text a1.Weak (-1) 9 0 0 0 0 [] [] false) true) := cond_Check.ok (api_Request.mk false [] a2 [a0] x21.None x21.AnyMatch x21.AnyNone x21.Since x21.Unless x21.Range_Text x21.Range_Weak) (api_Meta.mk a1.Text a1.Weak (-1) 9 0 0 0 0 [] [] false) true
                          rcases h39 : cond_Check.f (api_Request.mk false [] a2 [a0] x21.None x21.AnyMatch x21.AnyNone x21.Since x21.Unless x21.Range_Text x21.Range_Weak) (api_Meta.mk a1.Text a1.Weak (-1) 9 0 0 0 0 [] [] false) true with _ | x40
                          · simp only [D, DT, reduceIte, reduceCtorEq, Nat.reduceEqDiff, Nat.reduceAdd, Nat.reduceLT, Nat.reduceLeDiff, Nat.reduceBEq, Int.reduceLE, Int.reduceLT, Int.reduceEq, Int.reduceNeg, c1, h2, h4, c8, h9, h11, h15, h16, h17, h18, c19, h20, h22, c34, h35, h37, c38, h39]
                          · simp only [D, DT, reduceIte, reduceCtorEq, Nat.reduceEqDiff, Nat.reduceAdd, Nat.reduceLT, Nat.reduceLeDiff, Nat.reduceBEq, Int.reduceLE, Int.reduceLT, Int.reduceEq, Int.reduceNeg, c1, h2, h4, c8, h9, h11, h15, h16, h17, h18, c19, h20, h22, c34, h35, h37, c38, h39]
                            cases h41 : ((decide (x40 = 1)) == (!a0.Weak))
                            · simp only [D, DT, reduceIte, reduceCtorEq, Nat.reduceEqDiff, Nat.reduceAdd, Nat.reduceLT, Nat.reduceLeDiff, Nat.reduceBEq, Int.reduceLE, Int.reduceLT, Int.reduceEq, Int.reduceNeg, c1, h2, h4, c8, h9, h11, h15, h16, h17, h18, c19, h20, h22, c34, h35, h37, c38, h39, h41]
                              try rfl
                            · simp only [D, DT, reduceIte, reduceCtorEq, Nat.reduceEqDiff, Nat.reduceAdd, Nat.reduceLT, Nat.reduceLeDiff, Nat.reduceBEq, Int.reduceLE, Int.reduceLT, Int.reduceEq, Int.reduceNeg, c1, h2, h4, c8, h9, h11, h15, h16, h17, h18, c19, h20, h22, c34, h35, h37, c38, h39, h41]
                              have c42 : ansL X 7 [] = Option.map AV.bool (mandolinelaw08_awake.f) := mandolinelaw08_awake.ok
                              rcases h43 : mandolinelaw08_awake.f with _ | x44
                              · simp only [D, DT, reduceIte, reduceCtorEq, Nat.reduceEqDiff, Nat.reduceAdd, Nat.reduceLT, Nat.reduceLeDiff, Nat.reduceBEq, Int.reduceLE, Int.reduceLT, Int.reduceEq, Int.reduceNeg, c1, h2, h4, c8, h9, h11, h15, h16, h17, h18, c19, h20, h22, c34, h35, h37, c38, h39, h41, c42, h43]
                              · simp only [D, DT, reduceIte, reduceCtorEq, Nat.reduceEqDiff, Nat.reduceAdd, Nat.reduceLT, Nat.reduceLeDiff, Nat.reduceBEq, Int.reduceLE, Int.reduceLT, Int.reduceEq, Int.reduceNeg, c1, h2, h4, c8, h9, h11, h15, h16, h17, h18, c19, h20, h22, c34, h35, h37, c38, h39, h41, c42, h43]
                                try rfl
                · simp only [D, DT, reduceIte, reduceCtorEq, Nat.reduceEqDiff, Nat.reduceAdd, Nat.reduceLT, Nat.reduceLeDiff, Nat.reduceBEq, Int.reduceLE, Int.reduceLT, Int.reduceEq, Int.reduceNeg, c1, h2, h4, c8, h9, h11, h15, h16, h17, h18]
                  have c45 : ansL X 7 [] = Option.map AV.bool (mandolinelaw08_awake.f) := mandolinelaw08_awake.ok
                  rcases h46 : mandolinelaw08_awake.f with _ | x47
                  · simp only [D, DT, reduceIte, reduceCtorEq, Nat.reduceEqDiff, Nat.reduceAdd, Nat.reduceLT, Nat.reduceLeDiff, Nat.reduceBEq, Int.reduceLE, Int.reduceLT, Int.reduceEq, Int.reduceNeg, c1, h2, h4, c8, h9, h11, h15, h16, h17, h18, c45, h46]
                  · simp only [D, DT, reduceIte, reduceCtorEq, Nat.reduceEqDiff, Nat.reduceAdd, Nat.reduceLT, Nat.reduceLeDiff, Nat.reduceBEq, Int.reduceLE, Int.reduceLT, Int.reduceEq, Int.reduceNeg, c1, h2, h4, c8, h9, h11, h15, h16, h17, h18, c45, h46]
                    try rfl
              · simp only [D, DT, reduceIte, reduceCtorEq, Nat.reduceEqDiff, Nat.reduceAdd, Nat.reduceLT, Nat.reduceLeDiff, Nat.reduceBEq, Int.reduceLE, Int.reduceLT, Int.reduceEq, Int.reduceNeg, c1, h2, h4, c8, h9, h11, h15, h16, h17]
                have c48 : ansL X 7 [] = Option.map AV.bool (mandolinelaw08_awake.f) := mandolinelaw08_awake.ok
                rcases h49 : mandolinelaw08_awake.f with _ | x50
                · simp only [D, DT, reduceIte, reduceCtorEq, Nat.reduceEqDiff, Nat.reduceAdd, Nat.reduceLT, Nat.reduceLeDiff, Nat.reduceBEq, Int.reduceLE, Int.reduceLT, Int.reduceEq, Int.reduceNeg, c1, h2, h4, c8, h9, h11, h15, h16, h17, c48, h49]
                · simp only [D, DT, reduceIte, reduceCtorEq, Nat.reduceEqDiff, Nat.reduceAdd, Nat.reduceLT, Nat.reduceLeDiff, Nat.reduceBEq, Int.reduceLE, Int.reduceLT, Int.reduceEq, Int.reduceNeg, c1, h2, h4, c8, h9, h11, h15, h16, h17, c48, h49]
                  try rfl
            · simp only [D, DT, reduceIte, reduceCtorEq, Nat.reduceEqDiff, Nat.reduceAdd, Nat.reduceLT, Nat.reduceLeDiff, Nat.reduceBEq, Int.reduceLE, Int.reduceLT, Int.reduceEq, Int.reduceNeg, c1, h2, h4, c8, h9, h11, h15, h16]
              have c51 : ansL X 7 [] = Option.map AV.bool (mandolinelaw08_awake.f) := mandolinelaw08_awake.ok
              rcases h52 : mandolinelaw08_awake.f with _ | x53
              · simp only [D, DT, reduceIte, reduceCtorEq, Nat.reduceEqDiff, Nat.reduceAdd, Nat.reduceLT, Nat.reduceLeDiff, Nat.reduceBEq, Int.reduceLE, Int.reduceLT, Int.reduceEq, Int.reduceNeg, c1, h2, h4, c8, h9, h11, h15, h16, c51, h52]
              · simp only [D, DT, reduceIte, reduceCtorEq, Nat.reduceEqDiff, Nat.reduceAdd, Nat.reduceLT, Nat.reduceLeDiff, Nat.reduceBEq, Int.reduceLE, Int.reduceLT, Int.reduceEq, Int.reduceNeg, c1, h2, h4, c8, h9, h11, h15, h16, c51, h52]
                try rfl
          · simp only [D, DT, reduceIte, reduceCtorEq, Nat.reduceEqDiff, Nat.reduceAdd, Nat.reduceLT, Nat.reduceLeDiff, Nat.reduceBEq, Int.reduceLE, Int.reduceLT, Int.reduceEq, Int.reduceNeg, c1, h2, h4, c8, h9, h11, h15]
            have c54 : ansL X 7 [] = Option.map AV.bool (mandolinelaw08_awake.f) := mandolinelaw08_awake.ok
            rcases h55 : mandolinelaw08_awake.f with _ | x56
            · simp only [D, DT, reduceIte, reduceCtorEq, Nat.reduceEqDiff, Nat.reduceAdd, Nat.reduceLT, Nat.reduceLeDiff, Nat.reduceBEq, Int.reduceLE, Int.reduceLT, Int.reduceEq, Int.reduceNeg, c1, h2, h4, c8, h9, h11, h15, c54, h55]
            · simp only [D, DT, reduceIte, reduceCtorEq, Nat.reduceEqDiff, Nat.reduceAdd, Nat.reduceLT, Nat.reduceLeDiff, Nat.reduceBEq, Int.reduceLE, Int.reduceLT, Int.reduceEq, Int.reduceNeg, c1, h2, h4, c8, h9, h11, h15, c54, h55]
              try rfl
end Go.Proofs.Ytchlkbnjamgihaa
