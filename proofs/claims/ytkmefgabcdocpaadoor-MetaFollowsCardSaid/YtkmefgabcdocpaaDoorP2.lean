/-
  Plain functions: meta_Joins, mandolineref14_Joins, tag_Weak, mandolineref05_Weak, tag_Strong, mandolineref05_Strong, slices_Equal_string_string, meta_Follows, mandolineref14_Follows, meta_Same, mandolineref14_Same, mandolinelaw14_wakes, mandolinelaw14_MetaRight, mandolinelaw14_MetaChain, mandolinelaw14_MetaFollows. Its conditions: none.
-/
import Derived.Test.YtkmefgabcdocpaaDoorP1
namespace Go.Proofs.YtkmefgabcdocpaaDoor
open Go Go.Den
set_option maxRecDepth 100000
set_option linter.unusedSimpArgs false
set_option linter.unusedVariables false
noncomputable def meta_Joins.f (a0 : api_Meta) : Option Bool :=
  (tag_Right.f (api_Tag.mk a0.Tag_Text a0.Tag_Weak)).bind fun x3 =>
  bif x3 then
    some (!a0.Tag_Weak)
  else
    some false
set_option maxHeartbeats 4000000 in
theorem meta_Joins.ok (a0 : api_Meta) : ansL X 11 [(.agg [(.str a0.Tag_Text), (.bool a0.Tag_Weak), (.int .i64 a0.Modified), (.int .i64 a0.Length), (.int .i64 a0.Have), (.int .i64 a0.Fresh), (.int .i64 a0.While), (.int .i64 a0.Error), (.sl (encL AV.str a0.Keys)), (.str a0.Tenant), (.bool a0.Keep)])] = Option.map AV.bool (meta_Joins.f a0) := by
  rw [ansL_run (fd := c11) rfl rfl]
  simp only [D, DT, reduceIte, reduceCtorEq, Nat.reduceEqDiff, Nat.reduceAdd, Nat.reduceLT, Nat.reduceLeDiff, Nat.reduceBEq, Int.reduceLE, Int.reduceLT, Int.reduceEq, Int.reduceNeg, c11, meta_Joins.f]
  have c1 : ansL X 28 [(.agg [(.str a0.Tag_Text), (.bool a0.Tag_Weak)])] = Option.map AV.bool (tag_Right.f (api_Tag.mk a0.Tag_Text a0.Tag_Weak)) := tag_Right.ok (api_Tag.mk a0.Tag_Text a0.Tag_Weak)
  rcases h2 : tag_Right.f (api_Tag.mk a0.Tag_Text a0.Tag_Weak) with _ | x3
  · simp only [D, DT, reduceIte, reduceCtorEq, Nat.reduceEqDiff, Nat.reduceAdd, Nat.reduceLT, Nat.reduceLeDiff, Nat.reduceBEq, Int.reduceLE, Int.reduceLT, Int.reduceEq, Int.reduceNeg, c1, h2]
  · simp only [D, DT, reduceIte, reduceCtorEq, Nat.reduceEqDiff, Nat.reduceAdd, Nat.reduceLT, Nat.reduceLeDiff, Nat.reduceBEq, Int.reduceLE, Int.reduceLT, Int.reduceEq, Int.reduceNeg, c1, h2]
    cases h4 : x3
    · simp only [D, DT, reduceIte, reduceCtorEq, Nat.reduceEqDiff, Nat.reduceAdd, Nat.reduceLT, Nat.reduceLeDiff, Nat.reduceBEq, Int.reduceLE, Int.reduceLT, Int.reduceEq, Int.reduceNeg, c1, h2, h4]
      try rfl
    · simp only [D, DT, reduceIte, reduceCtorEq, Nat.reduceEqDiff, Nat.reduceAdd, Nat.reduceLT, Nat.reduceLeDiff, Nat.reduceBEq, Int.reduceLE, Int.reduceLT, Int.reduceEq, Int.reduceNeg, c1, h2, h4]
      try rfl
noncomputable def mandolineref14_Joins.f (a0 : api_Meta) : Option Bool :=
  (mandolineref05_Right.f (api_Tag.mk a0.Tag_Text a0.Tag_Weak)).bind fun x3 =>
  bif x3 then
    some (!a0.Tag_Weak)
  else
    some false
set_option maxHeartbeats 4000000 in
theorem mandolineref14_Joins.ok (a0 : api_Meta) : ansL X 12 [(.agg [(.str a0.Tag_Text), (.bool a0.Tag_Weak), (.int .i64 a0.Modified), (.int .i64 a0.Length), (.int .i64 a0.Have), (.int .i64 a0.Fresh), (.int .i64 a0.While), (.int .i64 a0.Error), (.sl (encL AV.str a0.Keys)), (.str a0.Tenant), (.bool a0.Keep)])] = Option.map AV.bool (mandolineref14_Joins.f a0) := by
  rw [ansL_run (fd := c12) rfl rfl]
  simp only [D, DT, reduceIte, reduceCtorEq, Nat.reduceEqDiff, Nat.reduceAdd, Nat.reduceLT, Nat.reduceLeDiff, Nat.reduceBEq, Int.reduceLE, Int.reduceLT, Int.reduceEq, Int.reduceNeg, c12, mandolineref14_Joins.f]
  have c1 : ansL X 25 [(.agg [(.str a0.Tag_Text), (.bool a0.Tag_Weak)])] = Option.map AV.bool (mandolineref05_Right.f (api_Tag.mk a0.Tag_Text a0.Tag_Weak)) := mandolineref05_Right.ok (api_Tag.mk a0.Tag_Text a0.Tag_Weak)
  rcases h2 : mandolineref05_Right.f (api_Tag.mk a0.Tag_Text a0.Tag_Weak) with _ | x3
  · simp only [D, DT, reduceIte, reduceCtorEq, Nat.reduceEqDiff, Nat.reduceAdd, Nat.reduceLT, Nat.reduceLeDiff, Nat.reduceBEq, Int.reduceLE, Int.reduceLT, Int.reduceEq, Int.reduceNeg, c1, h2]
  · simp only [D, DT, reduceIte, reduceCtorEq, Nat.reduceEqDiff, Nat.reduceAdd, Nat.reduceLT, Nat.reduceLeDiff, Nat.reduceBEq, Int.reduceLE, Int.reduceLT, Int.reduceEq, Int.reduceNeg, c1, h2]
    cases h4 : x3
    · simp only [D, DT, reduceIte, reduceCtorEq, Nat.reduceEqDiff, Nat.reduceAdd, Nat.reduceLT, Nat.reduceLeDiff, Nat.reduceBEq, Int.reduceLE, Int.reduceLT, Int.reduceEq, Int.reduceNeg, c1, h2, h4]
      try rfl
    · simp only [D, DT, reduceIte, reduceCtorEq, Nat.reduceEqDiff, Nat.reduceAdd, Nat.reduceLT, Nat.reduceLeDiff, Nat.reduceBEq, Int.reduceLE, Int.reduceLT, Int.reduceEq, Int.reduceNeg, c1, h2, h4]
      try rfl
noncomputable def tag_Weak.f (a0 : api_Tag) (a1 : api_Tag) : Option Bool :=
  (tag_Right.f a0).bind fun x3 =>
  bif x3 then
    (tag_Right.f a1).bind fun x7 =>
    bif x7 then
      some (a0.Text == a1.Text)
    else
      some false
  else
    some false
set_option maxHeartbeats 4000000 in
theorem tag_Weak.ok (a0 : api_Tag) (a1 : api_Tag) : ansL X 69 [(.agg [(.str a0.Text), (.bool a0.Weak)]), (.agg [(.str a1.Text), (.bool a1.Weak)])] = Option.map AV.bool (tag_Weak.f a0 a1) := by
  rw [ansL_run (fd := c69) rfl rfl]
  simp only [D, DT, reduceIte, reduceCtorEq, Nat.reduceEqDiff, Nat.reduceAdd, Nat.reduceLT, Nat.reduceLeDiff, Nat.reduceBEq, Int.reduceLE, Int.reduceLT, Int.reduceEq, Int.reduceNeg, c69, tag_Weak.f]
  have c1 : ansL X 28 [(.agg [(.str a0.Text), (.bool a0.Weak)])] = Option.map AV.bool (tag_Right.f a0) := tag_Right.ok a0
  rcases h2 : tag_Right.f a0 with _ | x3
  · simp only [D, DT, reduceIte, reduceCtorEq, Nat.reduceEqDiff, Nat.reduceAdd, Nat.reduceLT, Nat.reduceLeDiff, Nat.reduceBEq, Int.reduceLE, Int.reduceLT, Int.reduceEq, Int.reduceNeg, c1, h2]
  · simp only [D, DT, reduceIte, reduceCtorEq, Nat.reduceEqDiff, Nat.reduceAdd, Nat.reduceLT, Nat.reduceLeDiff, Nat.reduceBEq, Int.reduceLE, Int.reduceLT, Int.reduceEq, Int.reduceNeg, c1, h2]
    cases h4 : x3
    · simp only [D, DT, reduceIte, reduceCtorEq, Nat.reduceEqDiff, Nat.reduceAdd, Nat.reduceLT, Nat.reduceLeDiff, Nat.reduceBEq, Int.reduceLE, Int.reduceLT, Int.reduceEq, Int.reduceNeg, c1, h2, h4]
      try rfl
    · simp only [D, DT, reduceIte, reduceCtorEq, Nat.reduceEqDiff, Nat.reduceAdd, Nat.reduceLT, Nat.reduceLeDiff, Nat.reduceBEq, Int.reduceLE, Int.reduceLT, Int.reduceEq, Int.reduceNeg, c1, h2, h4]
      have c5 : ansL X 28 [(.agg [(.str a1.Text), (.bool a1.Weak)])] = Option.map AV.bool (tag_Right.f a1) := tag_Right.ok a1
      rcases h6 : tag_Right.f a1 with _ | x7
      · simp only [D, DT, reduceIte, reduceCtorEq, Nat.reduceEqDiff, Nat.reduceAdd, Nat.reduceLT, Nat.reduceLeDiff, Nat.reduceBEq, Int.reduceLE, Int.reduceLT, Int.reduceEq, Int.reduceNeg, c1, h2, h4, c5, h6]
      · simp only [D, DT, reduceIte, reduceCtorEq, Nat.reduceEqDiff, Nat.reduceAdd, Nat.reduceLT, Nat.reduceLeDiff, Nat.reduceBEq, Int.reduceLE, Int.reduceLT, Int.reduceEq, Int.reduceNeg, c1, h2, h4, c5, h6]
        cases h8 : x7
        · simp only [D, DT, reduceIte, reduceCtorEq, Nat.reduceEqDiff, Nat.reduceAdd, Nat.reduceLT, Nat.reduceLeDiff, Nat.reduceBEq, Int.reduceLE, Int.reduceLT, Int.reduceEq, Int.reduceNeg, c1, h2, h4, c5, h6, h8]
          try rfl
        · simp only [D, DT, reduceIte, reduceCtorEq, Nat.reduceEqDiff, Nat.reduceAdd, Nat.reduceLT, Nat.reduceLeDiff, Nat.reduceBEq, Int.reduceLE, Int.reduceLT, Int.reduceEq, Int.reduceNeg, c1, h2, h4, c5, h6, h8]
          try rfl
noncomputable def mandolineref05_Weak.f (a0 : api_Tag) (a1 : api_Tag) : Option Bool :=
  (mandolineref05_Right.f a0).bind fun x3 =>
  bif x3 then
    (mandolineref05_Right.f a1).bind fun x7 =>
    bif x7 then
      some (a0.Text == a1.Text)
    else
      some false
  else
    some false
set_option maxHeartbeats 4000000 in
theorem mandolineref05_Weak.ok (a0 : api_Tag) (a1 : api_Tag) : ansL X 70 [(.agg [(.str a0.Text), (.bool a0.Weak)]), (.agg [(.str a1.Text), (.bool a1.Weak)])] = Option.map AV.bool (mandolineref05_Weak.f a0 a1) := by
  rw [ansL_run (fd := c70) rfl rfl]
  simp only [D, DT, reduceIte, reduceCtorEq, Nat.reduceEqDiff, Nat.reduceAdd, Nat.reduceLT, Nat.reduceLeDiff, Nat.reduceBEq, Int.reduceLE, Int.reduceLT, Int.reduceEq, Int.reduceNeg, c70, mandolineref05_Weak.f]
  have c1 : ansL X 25 [(.agg [(.str a0.Text), (.bool a0.Weak)])] = Option.map AV.bool (mandolineref05_Right.f a0) := mandolineref05_Right.ok a0
  rcases h2 : mandolineref05_Right.f a0 with _ | x3
  · simp only [D, DT, reduceIte, reduceCtorEq, Nat.reduceEqDiff, Nat.reduceAdd, Nat.reduceLT, Nat.reduceLeDiff, Nat.reduceBEq, Int.reduceLE, Int.reduceLT, Int.reduceEq, Int.reduceNeg, c1, h2]
  · simp only [D, DT, reduceIte, reduceCtorEq, Nat.reduceEqDiff, Nat.reduceAdd, Nat.reduceLT, Nat.reduceLeDiff, Nat.reduceBEq, Int.reduceLE, Int.reduceLT, Int.reduceEq, Int.reduceNeg, c1, h2]
    cases h4 : x3
    · simp only [D, DT, reduceIte, reduceCtorEq, Nat.reduceEqDiff, Nat.reduceAdd, Nat.reduceLT, Nat.reduceLeDiff, Nat.reduceBEq, Int.reduceLE, Int.reduceLT, Int.reduceEq, Int.reduceNeg, c1, h2, h4]
      try rfl
    · simp only [D, DT, reduceIte, reduceCtorEq, Nat.reduceEqDiff, Nat.reduceAdd, Nat.reduceLT, Nat.reduceLeDiff, Nat.reduceBEq, Int.reduceLE, Int.reduceLT, Int.reduceEq, Int.reduceNeg, c1, h2, h4]
      have c5 : ansL X 25 [(.agg [(.str a1.Text), (.bool a1.Weak)])] = Option.map AV.bool (mandolineref05_Right.f a1) := mandolineref05_Right.ok a1
      rcases h6 : mandolineref05_Right.f a1 with _ | x7
      · simp only [D, DT, reduceIte, reduceCtorEq, Nat.reduceEqDiff, Nat.reduceAdd, Nat.reduceLT, Nat.reduceLeDiff, Nat.reduceBEq, Int.reduceLE, Int.reduceLT, Int.reduceEq, Int.reduceNeg, c1, h2, h4, c5, h6]
      · simp only [D, DT, reduceIte, reduceCtorEq, Nat.reduceEqDiff, Nat.reduceAdd, Nat.reduceLT, Nat.reduceLeDiff, Nat.reduceBEq, Int.reduceLE, Int.reduceLT, Int.reduceEq, Int.reduceNeg, c1, h2, h4, c5, h6]
        cases h8 : x7
        · simp only [D, DT, reduceIte, reduceCtorEq, Nat.reduceEqDiff, Nat.reduceAdd, Nat.reduceLT, Nat.reduceLeDiff, Nat.reduceBEq, Int.reduceLE, Int.reduceLT, Int.reduceEq, Int.reduceNeg, c1, h2, h4, c5, h6, h8]
          try rfl
        · simp only [D, DT, reduceIte, reduceCtorEq, Nat.reduceEqDiff, Nat.reduceAdd, Nat.reduceLT, Nat.reduceLeDiff, Nat.reduceBEq, Int.reduceLE, Int.reduceLT, Int.reduceEq, Int.reduceNeg, c1, h2, h4, c5, h6, h8]
          try rfl
noncomputable def tag_Strong.f (a0 : api_Tag) (a1 : api_Tag) : Option Bool :=
  (tag_Weak.f a0 a1).bind fun x3 =>
  bif x3 then
    bif a0.Weak then
      some false
    else
      some (!a1.Weak)
  else
    some false
set_option maxHeartbeats 4000000 in
theorem tag_Strong.ok (a0 : api_Tag) (a1 : api_Tag) : ansL X 42 [(.agg [(.str a0.Text), (.bool a0.Weak)]), (.agg [(.str a1.Text), (.bool a1.Weak)])] = Option.map AV.bool (tag_Strong.f a0 a1) := by
  rw [ansL_run (fd := c42) rfl rfl]
  simp only [D, DT, reduceIte, reduceCtorEq, Nat.reduceEqDiff, Nat.reduceAdd, Nat.reduceLT, Nat.reduceLeDiff, Nat.reduceBEq, Int.reduceLE, Int.reduceLT, Int.reduceEq, Int.reduceNeg, c42, tag_Strong.f]
  have c1 : ansL X 69 [(.agg [(.str a0.Text), (.bool a0.Weak)]), (.agg [(.str a1.Text), (.bool a1.Weak)])] = Option.map AV.bool (tag_Weak.f a0 a1) := tag_Weak.ok a0 a1
  rcases h2 : tag_Weak.f a0 a1 with _ | x3
  · simp only [D, DT, reduceIte, reduceCtorEq, Nat.reduceEqDiff, Nat.reduceAdd, Nat.reduceLT, Nat.reduceLeDiff, Nat.reduceBEq, Int.reduceLE, Int.reduceLT, Int.reduceEq, Int.reduceNeg, c1, h2]
  · simp only [D, DT, reduceIte, reduceCtorEq, Nat.reduceEqDiff, Nat.reduceAdd, Nat.reduceLT, Nat.reduceLeDiff, Nat.reduceBEq, Int.reduceLE, Int.reduceLT, Int.reduceEq, Int.reduceNeg, c1, h2]
    cases h4 : x3
    · simp only [D, DT, reduceIte, reduceCtorEq, Nat.reduceEqDiff, Nat.reduceAdd, Nat.reduceLT, Nat.reduceLeDiff, Nat.reduceBEq, Int.reduceLE, Int.reduceLT, Int.reduceEq, Int.reduceNeg, c1, h2, h4]
      try rfl
    · simp only [D, DT, reduceIte, reduceCtorEq, Nat.reduceEqDiff, Nat.reduceAdd, Nat.reduceLT, Nat.reduceLeDiff, Nat.reduceBEq, Int.reduceLE, Int.reduceLT, Int.reduceEq, Int.reduceNeg, c1, h2, h4]
      cases h5 : a0.Weak
      · simp only [D, DT, reduceIte, reduceCtorEq, Nat.reduceEqDiff, Nat.reduceAdd, Nat.reduceLT, Nat.reduceLeDiff, Nat.reduceBEq, Int.reduceLE, Int.reduceLT, Int.reduceEq, Int.reduceNeg, c1, h2, h4, h5]
        try rfl
      · simp only [D, DT, reduceIte, reduceCtorEq, Nat.reduceEqDiff, Nat.reduceAdd, Nat.reduceLT, Nat.reduceLeDiff, Nat.reduceBEq, Int.reduceLE, Int.reduceLT, Int.reduceEq, Int.reduceNeg, c1, h2, h4, h5]
        try rfl
noncomputable def mandolineref05_Strong.f (a0 : api_Tag) (a1 : api_Tag) : Option Bool :=
  (mandolineref05_Weak.f a0 a1).bind fun x3 =>
  bif x3 then
    bif a0.Weak then
      some false
    else
      some (!a1.Weak)
  else
    some false
set_option maxHeartbeats 4000000 in
theorem mandolineref05_Strong.ok (a0 : api_Tag) (a1 : api_Tag) : ansL X 43 [(.agg [(.str a0.Text), (.bool a0.Weak)]), (.agg [(.str a1.Text), (.bool a1.Weak)])] = Option.map AV.bool (mandolineref05_Strong.f a0 a1) := by
  rw [ansL_run (fd := c43) rfl rfl]
  simp only [D, DT, reduceIte, reduceCtorEq, Nat.reduceEqDiff, Nat.reduceAdd, Nat.reduceLT, Nat.reduceLeDiff, Nat.reduceBEq, Int.reduceLE, Int.reduceLT, Int.reduceEq, Int.reduceNeg, c43, mandolineref05_Strong.f]
  have c1 : ansL X 70 [(.agg [(.str a0.Text), (.bool a0.Weak)]), (.agg [(.str a1.Text), (.bool a1.Weak)])] = Option.map AV.bool (mandolineref05_Weak.f a0 a1) := mandolineref05_Weak.ok a0 a1
  rcases h2 : mandolineref05_Weak.f a0 a1 with _ | x3
  · simp only [D, DT, reduceIte, reduceCtorEq, Nat.reduceEqDiff, Nat.reduceAdd, Nat.reduceLT, Nat.reduceLeDiff, Nat.reduceBEq, Int.reduceLE, Int.reduceLT, Int.reduceEq, Int.reduceNeg, c1, h2]
  · simp only [D, DT, reduceIte, reduceCtorEq, Nat.reduceEqDiff, Nat.reduceAdd, Nat.reduceLT, Nat.reduceLeDiff, Nat.reduceBEq, Int.reduceLE, Int.reduceLT, Int.reduceEq, Int.reduceNeg, c1, h2]
    cases h4 : x3
    · simp only [D, DT, reduceIte, reduceCtorEq, Nat.reduceEqDiff, Nat.reduceAdd, Nat.reduceLT, Nat.reduceLeDiff, Nat.reduceBEq, Int.reduceLE, Int.reduceLT, Int.reduceEq, Int.reduceNeg, c1, h2, h4]
      try rfl
    · simp only [D, DT, reduceIte, reduceCtorEq, Nat.reduceEqDiff, Nat.reduceAdd, Nat.reduceLT, Nat.reduceLeDiff, Nat.reduceBEq, Int.reduceLE, Int.reduceLT, Int.reduceEq, Int.reduceNeg, c1, h2, h4]
      cases h5 : a0.Weak
      · simp only [D, DT, reduceIte, reduceCtorEq, Nat.reduceEqDiff, Nat.reduceAdd, Nat.reduceLT, Nat.reduceLeDiff, Nat.reduceBEq, Int.reduceLE, Int.reduceLT, Int.reduceEq, Int.reduceNeg, c1, h2, h4, h5]
        try rfl
      · simp only [D, DT, reduceIte, reduceCtorEq, Nat.reduceEqDiff, Nat.reduceAdd, Nat.reduceLT, Nat.reduceLeDiff, Nat.reduceBEq, Int.reduceLE, Int.reduceLT, Int.reduceEq, Int.reduceNeg, c1, h2, h4, h5]
        try rfl
inductive slices_Equal_string_string.l0X where
  | x0
  | ret
noncomputable def slices_Equal_string_string.l0B (a0 : (List (List UInt8))) (a1 : (List (List UInt8))) (v9_13 : Int) : Option (Step (Int) slices_Equal_string_string.l0X) :=
  bif (decide (v9_13 < (a0.length : Int))) then
    (idx a0 v9_13).bind fun x20 =>
    (idx a1 v9_13).bind fun x22 =>
    bif (x20 == x22) then
      some (.next (IntKind.i64.wrap (v9_13 + 1)))
    else
      some (.done (.ret))
  else
    some (.done (.x0))
set_option maxHeartbeats 4000000 in
theorem slices_Equal_string_string.l0_ok {α : Type} {F : Env → Heap → Option α} {K : List Fr} (fin : slices_Equal_string_string.l0X → Option α) (a0 : (List (List UInt8))) (a1 : (List (List UInt8)))
    (hx0 : ∀ (e : Env) (H : Heap), outL X [] F K e H 0 = fin (.x0))
    (hret : ∀ (e : Env) (H : Heap), e 4 = (.bool false) → F e H = fin (.ret)) (v9_13 : Int) (e : Env) (H : Heap) (g0_9 : e 0 = (.sl (encL AV.str a0))) (g1_9 : e 1 = (.sl (encL AV.str a1))) (g12_9 : e 12 = (.int .i64 (a0.length : Int))) (g13_9 : e 13 = (.int .i64 v9_13)) :
    runL X [] F (.c (.loop c44_l0) :: K) e H = (loopL (slices_Equal_string_string.l0B a0 a1) v9_13).bind fin := by
  refine loop_of (R := fun (v9_13 : Int) (e : Env) (H : Heap) => e 0 = (.sl (encL AV.str a0)) ∧ e 1 = (.sl (encL AV.str a1)) ∧ e 12 = (.int .i64 (a0.length : Int)) ∧ e 13 = (.int .i64 v9_13)) fin ?_ ⟨g0_9, g1_9, g12_9, g13_9⟩
  clear g13_9 g12_9 g1_9 g0_9 e H v9_13
  intro n G hn hd s e H hR
  revert hR; revert s; intro v9_13 hR
  obtain ⟨g0_9, g1_9, g12_9, g13_9⟩ := hR
  simp only [D, DT, reduceIte, reduceCtorEq, Nat.reduceEqDiff, Nat.reduceAdd, Nat.reduceLT, Nat.reduceLeDiff, Nat.reduceBEq, Int.reduceLE, Int.reduceLT, Int.reduceEq, Int.reduceNeg, slices_Equal_string_string.l0B, g0_9, g1_9, g12_9, g13_9, c44_l0]
  cases h18 : (decide (v9_13 < (a0.length : Int)))
  · simp only [D, DT, reduceIte, reduceCtorEq, Nat.reduceEqDiff, Nat.reduceAdd, Nat.reduceLT, Nat.reduceLeDiff, Nat.reduceBEq, Int.reduceLE, Int.reduceLT, Int.reduceEq, Int.reduceNeg, g0_9, g1_9, g12_9, g13_9, c44_l0, h18]
    exact (hx0 _ _).trans (hd _).symm
  · simp only [D, DT, reduceIte, reduceCtorEq, Nat.reduceEqDiff, Nat.reduceAdd, Nat.reduceLT, Nat.reduceLeDiff, Nat.reduceBEq, Int.reduceLE, Int.reduceLT, Int.reduceEq, Int.reduceNeg, g0_9, g1_9, g12_9, g13_9, c44_l0, h18]
    rcases h19 : idx a0 v9_13 with _ | x20
    · simp only [D, DT, reduceIte, reduceCtorEq, Nat.reduceEqDiff, Nat.reduceAdd, Nat.reduceLT, Nat.reduceLeDiff, Nat.reduceBEq, Int.reduceLE, Int.reduceLT, Int.reduceEq, Int.reduceNeg, g0_9, g1_9, g12_9, g13_9, c44_l0, h18, h19]
    · simp only [D, DT, reduceIte, reduceCtorEq, Nat.reduceEqDiff, Nat.reduceAdd, Nat.reduceLT, Nat.reduceLeDiff, Nat.reduceBEq, Int.reduceLE, Int.reduceLT, Int.reduceEq, Int.reduceNeg, g0_9, g1_9, g12_9, g13_9, c44_l0, h18, h19]
      rcases h21 : idx a1 v9_13 with _ | x22
      · simp only [D, DT, reduceIte, reduceCtorEq, Nat.reduceEqDiff, Nat.reduceAdd, Nat.reduceLT, Nat.reduceLeDiff, Nat.reduceBEq, Int.reduceLE, Int.reduceLT, Int.reduceEq, Int.reduceNeg, g0_9, g1_9, g12_9, g13_9, c44_l0, h18, h19, h21]
      · simp only [D, DT, reduceIte, reduceCtorEq, Nat.reduceEqDiff, Nat.reduceAdd, Nat.reduceLT, Nat.reduceLeDiff, Nat.reduceBEq, Int.reduceLE, Int.reduceLT, Int.reduceEq, Int.reduceNeg, g0_9, g1_9, g12_9, g13_9, c44_l0, h18, h19, h21]
        cases h23 : (x20 == x22)
        · simp only [D, DT, reduceIte, reduceCtorEq, Nat.reduceEqDiff, Nat.reduceAdd, Nat.reduceLT, Nat.reduceLeDiff, Nat.reduceBEq, Int.reduceLE, Int.reduceLT, Int.reduceEq, Int.reduceNeg, g0_9, g1_9, g12_9, g13_9, c44_l0, h18, h19, h21, h23]
          exact (hret _ _ (by first | (simp only [D, DT, reduceIte, reduceCtorEq, Nat.reduceEqDiff, Nat.reduceAdd, Nat.reduceLT, Nat.reduceLeDiff, Nat.reduceBEq, Int.reduceLE, Int.reduceLT, Int.reduceEq, Int.reduceNeg, g0_9, g1_9, g12_9, g13_9, c44_l0, h18, h19, h21, h23] <;> rfl) | rfl)).trans (hd _).symm
        · simp only [D, DT, reduceIte, reduceCtorEq, Nat.reduceEqDiff, Nat.reduceAdd, Nat.reduceLT, Nat.reduceLeDiff, Nat.reduceBEq, Int.reduceLE, Int.reduceLT, Int.reduceEq, Int.reduceNeg, g0_9, g1_9, g12_9, g13_9, c44_l0, h18, h19, h21, h23]
          exact hn _ _ _ ⟨(by first | (simp only [D, DT, reduceIte, reduceCtorEq, Nat.reduceEqDiff, Nat.reduceAdd, Nat.reduceLT, Nat.reduceLeDiff, Nat.reduceBEq, Int.reduceLE, Int.reduceLT, Int.reduceEq, Int.reduceNeg, g0_9, g1_9, g12_9, g13_9, c44_l0, h18, h19, h21, h23] <;> rfl) | rfl), (by first | (simp only [D, DT, reduceIte, reduceCtorEq, Nat.reduceEqDiff, Nat.reduceAdd, Nat.reduceLT, Nat.reduceLeDiff, Nat.reduceBEq, Int.reduceLE, Int.reduceLT, Int.reduceEq, Int.reduceNeg, g0_9, g1_9, g12_9, g13_9, c44_l0, h18, h19, h21, h23] <;> rfl) | rfl), (by first | (simp only [D, DT, reduceIte, reduceCtorEq, Nat.reduceEqDiff, Nat.reduceAdd, Nat.reduceLT, Nat.reduceLeDiff, Nat.reduceBEq, Int.reduceLE, Int.reduceLT, Int.reduceEq, Int.reduceNeg, g0_9, g1_9, g12_9, g13_9, c44_l0, h18, h19, h21, h23] <;> rfl) | rfl), (by first | (simp only [D, DT, reduceIte, reduceCtorEq, Nat.reduceEqDiff, Nat.reduceAdd, Nat.reduceLT, Nat.reduceLeDiff, Nat.reduceBEq, Int.reduceLE, Int.reduceLT, Int.reduceEq, Int.reduceNeg, g0_9, g1_9, g12_9, g13_9, c44_l0, h18, h19, h21, h23] <;> rfl) | rfl)⟩
noncomputable def slices_Equal_string_string.a0 : slices_Equal_string_string.l0X → Option Bool
  | .x0 =>
    some true
  | .ret =>
    some false
noncomputable def slices_Equal_string_string.f (a0 : (List (List UInt8))) (a1 : (List (List UInt8))) : Option Bool :=
  bif (decide ((a0.length : Int) = (a1.length : Int))) then
    (loopL (slices_Equal_string_string.l0B a0 a1) 0).bind (slices_Equal_string_string.a0)
  else
    some false
set_option maxHeartbeats 4000000 in
theorem slices_Equal_string_string.ok (a0 : (List (List UInt8))) (a1 : (List (List UInt8))) : ansL X 44 [(.sl (encL AV.str a0)), (.sl (encL AV.str a1))] = Option.map AV.bool (slices_Equal_string_string.f a0 a1) := by
  rw [ansL_run (fd := c44) rfl rfl]
  simp only [D, DT, reduceIte, reduceCtorEq, Nat.reduceEqDiff, Nat.reduceAdd, Nat.reduceLT, Nat.reduceLeDiff, Nat.reduceBEq, Int.reduceLE, Int.reduceLT, Int.reduceEq, Int.reduceNeg, c44, slices_Equal_string_string.f]
  cases h1 : (decide ((a0.length : Int) = (a1.length : Int)))
  · simp only [D, DT, reduceIte, reduceCtorEq, Nat.reduceEqDiff, Nat.reduceAdd, Nat.reduceLT, Nat.reduceLeDiff, Nat.reduceBEq, Int.reduceLE, Int.reduceLT, Int.reduceEq, Int.reduceNeg, h1]
    try rfl
  · simp only [D, DT, reduceIte, reduceCtorEq, Nat.reduceEqDiff, Nat.reduceAdd, Nat.reduceLT, Nat.reduceLeDiff, Nat.reduceBEq, Int.reduceLE, Int.reduceLT, Int.reduceEq, Int.reduceNeg, h1]
    refine Eq.trans (slices_Equal_string_string.l0_ok (fun x => Option.map AV.bool (slices_Equal_string_string.a0 x)) a0 a1 ?_ ?_ 0 _ _ (by first | (simp only [D, DT, reduceIte, reduceCtorEq, Nat.reduceEqDiff, Nat.reduceAdd, Nat.reduceLT, Nat.reduceLeDiff, Nat.reduceBEq, Int.reduceLE, Int.reduceLT, Int.reduceEq, Int.reduceNeg, h1] <;> rfl) | rfl) (by first | (simp only [D, DT, reduceIte, reduceCtorEq, Nat.reduceEqDiff, Nat.reduceAdd, Nat.reduceLT, Nat.reduceLeDiff, Nat.reduceBEq, Int.reduceLE, Int.reduceLT, Int.reduceEq, Int.reduceNeg, h1] <;> rfl) | rfl) (by first | (simp only [D, DT, reduceIte, reduceCtorEq, Nat.reduceEqDiff, Nat.reduceAdd, Nat.reduceLT, Nat.reduceLeDiff, Nat.reduceBEq, Int.reduceLE, Int.reduceLT, Int.reduceEq, Int.reduceNeg, h1] <;> rfl) | rfl) (by first | (simp only [D, DT, reduceIte, reduceCtorEq, Nat.reduceEqDiff, Nat.reduceAdd, Nat.reduceLT, Nat.reduceLeDiff, Nat.reduceBEq, Int.reduceLE, Int.reduceLT, Int.reduceEq, Int.reduceNeg, h1] <;> rfl) | rfl)) ?_
    · intro e_24 H_24
      simp only [D, DT, reduceIte, reduceCtorEq, Nat.reduceEqDiff, Nat.reduceAdd, Nat.reduceLT, Nat.reduceLeDiff, Nat.reduceBEq, Int.reduceLE, Int.reduceLT, Int.reduceEq, Int.reduceNeg, slices_Equal_string_string.a0, h1]
      try rfl
    · intro e_25 H_25 g4_17_25
      simp only [D, DT, reduceIte, reduceCtorEq, Nat.reduceEqDiff, Nat.reduceAdd, Nat.reduceLT, Nat.reduceLeDiff, Nat.reduceBEq, Int.reduceLE, Int.reduceLT, Int.reduceEq, Int.reduceNeg, slices_Equal_string_string.a0, h1, g4_17_25]
      try rfl
    exact mb _ _ _
noncomputable def meta_Follows.f (a0 : api_Meta) (a1 : api_Meta) : Option Bool :=
  (meta_Right.f a0).bind fun x3 =>
  bif x3 then
    (meta_Right.f a1).bind fun x7 =>
    bif x7 then
      (meta_Joins.f a0).bind fun x11 =>
      bif x11 then
        (tag_Strong.f (api_Tag.mk a0.Tag_Text a0.Tag_Weak) (api_Tag.mk a1.Tag_Text a1.Tag_Weak)).bind fun x15 =>
        bif x15 then
          bif (decide (a0.Modified = a1.Modified)) then
            bif (decide ((0 : Int) ≤ a0.Length)) then
              some (decide (a0.Length = a1.Length))
            else
              some (decide (a0.Have ≤ a1.Have))
          else
            some false
        else
          some false
      else
        some false
    else
      some false
  else
    some false
set_option maxHeartbeats 4000000 in
theorem meta_Follows.ok (a0 : api_Meta) (a1 : api_Meta) : ansL X 16 [(.agg [(.str a0.Tag_Text), (.bool a0.Tag_Weak), (.int .i64 a0.Modified), (.int .i64 a0.Length), (.int .i64 a0.Have), (.int .i64 a0.Fresh), (.int .i64 a0.While), (.int .i64 a0.Error), (.sl (encL AV.str a0.Keys)), (.str a0.Tenant), (.bool a0.Keep)]), (.agg [(.str a1.Tag_Text), (.bool a1.Tag_Weak), (.int .i64 a1.Modified), (.int .i64 a1.Length), (.int .i64 a1.Have), (.int .i64 a1.Fresh), (.int .i64 a1.While), (.int .i64 a1.Error), (.sl (encL AV.str a1.Keys)), (.str a1.Tenant), (.bool a1.Keep)])] = Option.map AV.bool (meta_Follows.f a0 a1) := by
  rw [ansL_run (fd := c16) rfl rfl]
  simp only [D, DT, reduceIte, reduceCtorEq, Nat.reduceEqDiff, Nat.reduceAdd, Nat.reduceLT, Nat.reduceLeDiff, Nat.reduceBEq, Int.reduceLE, Int.reduceLT, Int.reduceEq, Int.reduceNeg, c16, meta_Follows.f]
  have c1 : ansL X 9 [(.agg [(.str a0.Tag_Text), (.bool a0.Tag_Weak), (.int .i64 a0.Modified), (.int .i64 a0.Length), (.int .i64 a0.Have), (.int .i64 a0.Fresh), (.int .i64 a0.While), (.int .i64 a0.Error), (.sl (encL AV.str a0.Keys)), (.str a0.Tenant), (.bool a0.Keep)])] = Option.map AV.bool (meta_Right.f a0) := meta_Right.ok a0
  rcases h2 : meta_Right.f a0 with _ | x3
  · simp only [D, DT, reduceIte, reduceCtorEq, Nat.reduceEqDiff, Nat.reduceAdd, Nat.reduceLT, Nat.reduceLeDiff, Nat.reduceBEq, Int.reduceLE, Int.reduceLT, Int.reduceEq, Int.reduceNeg, c1, h2]
  · simp only [D, DT, reduceIte, reduceCtorEq, Nat.reduceEqDiff, Nat.reduceAdd, Nat.reduceLT, Nat.reduceLeDiff, Nat.reduceBEq, Int.reduceLE, Int.reduceLT, Int.reduceEq, Int.reduceNeg, c1, h2]
    cases h4 : x3
    · simp only [D, DT, reduceIte, reduceCtorEq, Nat.reduceEqDiff, Nat.reduceAdd, Nat.reduceLT, Nat.reduceLeDiff, Nat.reduceBEq, Int.reduceLE, Int.reduceLT, Int.reduceEq, Int.reduceNeg, c1, h2, h4]
      try rfl
    · simp only [D, DT, reduceIte, reduceCtorEq, Nat.reduceEqDiff, Nat.reduceAdd, Nat.reduceLT, Nat.reduceLeDiff, Nat.reduceBEq, Int.reduceLE, Int.reduceLT, Int.reduceEq, Int.reduceNeg, c1, h2, h4]
      have c5 : ansL X 9 [(.agg [(.str a1.Tag_Text), (.bool a1.Tag_Weak), (.int .i64 a1.Modified), (.int .i64 a1.Length), (.int .i64 a1.Have), (.int .i64 a1.Fresh), (.int .i64 a1.While), (.int .i64 a1.Error), (.sl (encL AV.str a1.Keys)), (.str a1.Tenant), (.bool a1.Keep)])] = Option.map AV.bool (meta_Right.f a1) := meta_Right.ok a1
      rcases h6 : meta_Right.f a1 with _ | x7
      · simp only [D, DT, reduceIte, reduceCtorEq, Nat.reduceEqDiff, Nat.reduceAdd, Nat.reduceLT, Nat.reduceLeDiff, Nat.reduceBEq, Int.reduceLE, Int.reduceLT, Int.reduceEq, Int.reduceNeg, c1, h2, h4, c5, h6]
      · simp only [D, DT, reduceIte, reduceCtorEq, Nat.reduceEqDiff, Nat.reduceAdd, Nat.reduceLT, Nat.reduceLeDiff, Nat.reduceBEq, Int.reduceLE, Int.reduceLT, Int.reduceEq, Int.reduceNeg, c1, h2, h4, c5, h6]
        cases h8 : x7
        · simp only [D, DT, reduceIte, reduceCtorEq, Nat.reduceEqDiff, Nat.reduceAdd, Nat.reduceLT, Nat.reduceLeDiff, Nat.reduceBEq, Int.reduceLE, Int.reduceLT, Int.reduceEq, Int.reduceNeg, c1, h2, h4, c5, h6, h8]
          try rfl
        · simp only [D, DT, reduceIte, reduceCtorEq, Nat.reduceEqDiff, Nat.reduceAdd, Nat.reduceLT, Nat.reduceLeDiff, Nat.reduceBEq, Int.reduceLE, Int.reduceLT, Int.reduceEq, Int.reduceNeg, c1, h2, h4, c5, h6, h8]
          have c9 : ansL X 11 [(.agg [(.str a0.Tag_Text), (.bool a0.Tag_Weak), (.int .i64 a0.Modified), (.int .i64 a0.Length), (.int .i64 a0.Have), (.int .i64 a0.Fresh), (.int .i64 a0.While), (.int .i64 a0.Error), (.sl (encL AV.str a0.Keys)), (.str a0.Tenant), (.bool a0.Keep)])] = Option.map AV.bool (meta_Joins.f a0) := meta_Joins.ok a0
          rcases h10 : meta_Joins.f a0 with _ | x11
          · simp only [D, DT, reduceIte, reduceCtorEq, Nat.reduceEqDiff, Nat.reduceAdd, Nat.reduceLT, Nat.reduceLeDiff, Nat.reduceBEq, Int.reduceLE, Int.reduceLT, Int.reduceEq, Int.reduceNeg, c1, h2, h4, c5, h6, h8, c9, h10]
          · simp only [D, DT, reduceIte, reduceCtorEq, Nat.reduceEqDiff, Nat.reduceAdd, Nat.reduceLT, Nat.reduceLeDiff, Nat.reduceBEq, Int.reduceLE, Int.reduceLT, Int.reduceEq, Int.reduceNeg, c1, h2, h4, c5, h6, h8, c9, h10]
            cases h12 : x11
            · simp only [D, DT, reduceIte, reduceCtorEq, Nat.reduceEqDiff, Nat.reduceAdd, Nat.reduceLT, Nat.reduceLeDiff, Nat.reduceBEq, Int.reduceLE, Int.reduceLT, Int.reduceEq, Int.reduceNeg, c1, h2, h4, c5, h6, h8, c9, h10, h12]
              try rfl
            · simp only [D, DT, reduceIte, reduceCtorEq, Nat.reduceEqDiff, Nat.reduceAdd, Nat.reduceLT, Nat.reduceLeDiff, Nat.reduceBEq, Int.reduceLE, Int.reduceLT, Int.reduceEq, Int.reduceNeg, c1, h2, h4, c5, h6, h8, c9, h10, h12]
              have c13 : ansL X 42 [(.agg [(.str a0.Tag_Text), (.bool a0.Tag_Weak)]), (.agg [(.str a1.Tag_Text), (.bool a1.Tag_Weak)])] = Option.map AV.bool (tag_Strong.f (api_Tag.mk a0.Tag_Text a0.Tag_Weak) (api_Tag.mk a1.Tag_Text a1.Tag_Weak)) := tag_Strong.ok (api_Tag.mk a0.Tag_Text a0.Tag_Weak) (api_Tag.mk a1.Tag_Text a1.Tag_Weak)
              rcases h14 : tag_Strong.f (api_Tag.mk a0.Tag_Text a0.Tag_Weak) (api_Tag.mk a1.Tag_Text a1.Tag_Weak) with _ | x15
              · simp only [D, DT, reduceIte, reduceCtorEq, Nat.reduceEqDiff, Nat.reduceAdd, Nat.reduceLT, Nat.reduceLeDiff, Nat.reduceBEq, Int.reduceLE, Int.reduceLT, Int.reduceEq, Int.reduceNeg, c1, h2, h4, c5, h6, h8, c9, h10, h12, c13, h14]
              · simp only [D, DT, reduceIte, reduceCtorEq, Nat.reduceEqDiff, Nat.reduceAdd, Nat.reduceLT, Nat.reduceLeDiff, Nat.reduceBEq, Int.reduceLE, Int.reduceLT, Int.reduceEq, Int.reduceNeg, c1, h2, h4, c5, h6, h8, c9, h10, h12, c13, h14]
                cases h16 : x15
                · simp only [D, DT, reduceIte, reduceCtorEq, Nat.reduceEqDiff, Nat.reduceAdd, Nat.reduceLT, Nat.reduceLeDiff, Nat.reduceBEq, Int.reduceLE, Int.reduceLT, Int.reduceEq, Int.reduceNeg, c1, h2, h4, c5, h6, h8, c9, h10, h12, c13, h14, h16]
                  try rfl
                · simp only [D, DT, reduceIte, reduceCtorEq, Nat.reduceEqDiff, Nat.reduceAdd, Nat.reduceLT, Nat.reduceLeDiff, Nat.reduceBEq, Int.reduceLE, Int.reduceLT, Int.reduceEq, Int.reduceNeg, c1, h2, h4, c5, h6, h8, c9, h10, h12, c13, h14, h16]
                  cases h17 : (decide (a0.Modified = a1.Modified))
                  · simp only [D, DT, reduceIte, reduceCtorEq, Nat.reduceEqDiff, Nat.reduceAdd, Nat.reduceLT, Nat.reduceLeDiff, Nat.reduceBEq, Int.reduceLE, Int.reduceLT, Int.reduceEq, Int.reduceNeg, c1, h2, h4, c5, h6, h8, c9, h10, h12, c13, h14, h16, h17]
                    try rfl
                  · simp only [D, DT, reduceIte, reduceCtorEq, Nat.reduceEqDiff, Nat.reduceAdd, Nat.reduceLT, Nat.reduceLeDiff, Nat.reduceBEq, Int.reduceLE, Int.reduceLT, Int.reduceEq, Int.reduceNeg, c1, h2, h4, c5, h6, h8, c9, h10, h12, c13, h14, h16, h17]
                    cases h18 : (decide ((0 : Int) ≤ a0.Length))
                    · simp only [D, DT, reduceIte, reduceCtorEq, Nat.reduceEqDiff, Nat.reduceAdd, Nat.reduceLT, Nat.reduceLeDiff, Nat.reduceBEq, Int.reduceLE, Int.reduceLT, Int.reduceEq, Int.reduceNeg, c1, h2, h4, c5, h6, h8, c9, h10, h12, c13, h14, h16, h17, h18]
                      try rfl
                    · simp only [D, DT, reduceIte, reduceCtorEq, Nat.reduceEqDiff, Nat.reduceAdd, Nat.reduceLT, Nat.reduceLeDiff, Nat.reduceBEq, Int.reduceLE, Int.reduceLT, Int.reduceEq, Int.reduceNeg, c1, h2, h4, c5, h6, h8, c9, h10, h12, c13, h14, h16, h17, h18]
                      try rfl
noncomputable def mandolineref14_Follows.f (a0 : api_Meta) (a1 : api_Meta) : Option Bool :=
  (mandolineref14_Right.f a0).bind fun x3 =>
  bif x3 then
    (mandolineref14_Right.f a1).bind fun x7 =>
    bif x7 then
      (mandolineref14_Joins.f a0).bind fun x11 =>
      bif x11 then
        (mandolineref05_Strong.f (api_Tag.mk a0.Tag_Text a0.Tag_Weak) (api_Tag.mk a1.Tag_Text a1.Tag_Weak)).bind fun x15 =>
        bif x15 then
          bif (decide (a0.Modified = a1.Modified)) then
            bif (decide ((0 : Int) ≤ a0.Length)) then
              some (decide (a0.Length = a1.Length))
            else
              some (decide (a0.Have ≤ a1.Have))
          else
            some false
        else
          some false
      else
        some false
    else
      some false
  else
    some false
set_option maxHeartbeats 4000000 in
theorem mandolineref14_Follows.ok (a0 : api_Meta) (a1 : api_Meta) : ansL X 17 [(.agg [(.str a0.Tag_Text), (.bool a0.Tag_Weak), (.int .i64 a0.Modified), (.int .i64 a0.Length), (.int .i64 a0.Have), (.int .i64 a0.Fresh), (.int .i64 a0.While), (.int .i64 a0.Error), (.sl (encL AV.str a0.Keys)), (.str a0.Tenant), (.bool a0.Keep)]), (.agg [(.str a1.Tag_Text), (.bool a1.Tag_Weak), (.int .i64 a1.Modified), (.int .i64 a1.Length), (.int .i64 a1.Have), (.int .i64 a1.Fresh), (.int .i64 a1.While), (.int .i64 a1.Error), (.sl (encL AV.str a1.Keys)), (.str a1.Tenant), (.bool a1.Keep)])] = Option.map AV.bool (mandolineref14_Follows.f a0 a1) := by
  rw [ansL_run (fd := c17) rfl rfl]
  simp only [D, DT, reduceIte, reduceCtorEq, Nat.reduceEqDiff, Nat.reduceAdd, Nat.reduceLT, Nat.reduceLeDiff, Nat.reduceBEq, Int.reduceLE, Int.reduceLT, Int.reduceEq, Int.reduceNeg, c17, mandolineref14_Follows.f]
  have c1 : ansL X 10 [(.agg [(.str a0.Tag_Text), (.bool a0.Tag_Weak), (.int .i64 a0.Modified), (.int .i64 a0.Length), (.int .i64 a0.Have), (.int .i64 a0.Fresh), (.int .i64 a0.While), (.int .i64 a0.Error), (.sl (encL AV.str a0.Keys)), (.str a0.Tenant), (.bool a0.Keep)])] = Option.map AV.bool (mandolineref14_Right.f a0) := mandolineref14_Right.ok a0
  rcases h2 : mandolineref14_Right.f a0 with _ | x3
  · simp only [D, DT, reduceIte, reduceCtorEq, Nat.reduceEqDiff, Nat.reduceAdd, Nat.reduceLT, Nat.reduceLeDiff, Nat.reduceBEq, Int.reduceLE, Int.reduceLT, Int.reduceEq, Int.reduceNeg, c1, h2]
  · simp only [D, DT, reduceIte, reduceCtorEq, Nat.reduceEqDiff, Nat.reduceAdd, Nat.reduceLT, Nat.reduceLeDiff, Nat.reduceBEq, Int.reduceLE, Int.reduceLT, Int.reduceEq, Int.reduceNeg, c1, h2]
    cases h4 : x3
    · simp only [D, DT, reduceIte, reduceCtorEq, Nat.reduceEqDiff, Nat.reduceAdd, Nat.reduceLT, Nat.reduceLeDiff, Nat.reduceBEq, Int.reduceLE, Int.reduceLT, Int.reduceEq, Int.reduceNeg, c1, h2, h4]
      try rfl
    · simp only [D, DT, reduceIte, reduceCtorEq, Nat.reduceEqDiff, Nat.reduceAdd, Nat.reduceLT, Nat.reduceLeDiff, Nat.reduceBEq, Int.reduceLE, Int.reduceLT, Int.reduceEq, Int.reduceNeg, c1, h2, h4]
      have c5 : ansL X 10 [(.agg [(.str a1.Tag_Text), (.bool a1.Tag_Weak), (.int .i64 a1.Modified), (.int .i64 a1.Length), (.int .i64 a1.Have), (.int .i64 a1.Fresh), (.int .i64 a1.While), (.int .i64 a1.Error), (.sl (encL AV.str a1.Keys)), (.str a1.Tenant), (.bool a1.Keep)])] = Option.map AV.bool (mandolineref14_Right.f a1) := mandolineref14_Right.ok a1
      rcases h6 : mandolineref14_Right.f a1 with _ | x7
      · simp only [D, DT, reduceIte, reduceCtorEq, Nat.reduceEqDiff, Nat.reduceAdd, Nat.reduceLT, Nat.reduceLeDiff, Nat.reduceBEq, Int.reduceLE, Int.reduceLT, Int.reduceEq, Int.reduceNeg, c1, h2, h4, c5, h6]
      · simp only [D, DT, reduceIte, reduceCtorEq, Nat.reduceEqDiff, Nat.reduceAdd, Nat.reduceLT, Nat.reduceLeDiff, Nat.reduceBEq, Int.reduceLE, Int.reduceLT, Int.reduceEq, Int.reduceNeg, c1, h2, h4, c5, h6]
        cases h8 : x7
        · simp only [D, DT, reduceIte, reduceCtorEq, Nat.reduceEqDiff, Nat.reduceAdd, Nat.reduceLT, Nat.reduceLeDiff, Nat.reduceBEq, Int.reduceLE, Int.reduceLT, Int.reduceEq, Int.reduceNeg, c1, h2, h4, c5, h6, h8]
          try rfl
        · simp only [D, DT, reduceIte, reduceCtorEq, Nat.reduceEqDiff, Nat.reduceAdd, Nat.reduceLT, Nat.reduceLeDiff, Nat.reduceBEq, Int.reduceLE, Int.reduceLT, Int.reduceEq, Int.reduceNeg, c1, h2, h4, c5, h6, h8]
          have c9 : ansL X 12 [(.agg [(.str a0.Tag_Text), (.bool a0.Tag_Weak), (.int .i64 a0.Modified), (.int .i64 a0.Length), (.int .i64 a0.Have), (.int .i64 a0.Fresh), (.int .i64 a0.While), (.int .i64 a0.Error), (.sl (encL AV.str a0.Keys)), (.str a0.Tenant), (.bool a0.Keep)])] = Option.map AV.bool (mandolineref14_Joins.f a0) := mandolineref14_Joins.ok a0
          rcases h10 : mandolineref14_Joins.f a0 with _ | x11
          · simp only [D, DT, reduceIte, reduceCtorEq, Nat.reduceEqDiff, Nat.reduceAdd, Nat.reduceLT, Nat.reduceLeDiff, Nat.reduceBEq, Int.reduceLE, Int.reduceLT, Int.reduceEq, Int.reduceNeg, c1, h2, h4, c5, h6, h8, c9, h10]
          · simp only [D, DT, reduceIte, reduceCtorEq, Nat.reduceEqDiff, Nat.reduceAdd, Nat.reduceLT, Nat.reduceLeDiff, Nat.reduceBEq, Int.reduceLE, Int.reduceLT, Int.reduceEq, Int.reduceNeg, c1, h2, h4, c5, h6, h8, c9, h10]
            cases h12 : x11
            · simp only [D, DT, reduceIte, reduceCtorEq, Nat.reduceEqDiff, Nat.reduceAdd, Nat.reduceLT, Nat.reduceLeDiff, Nat.reduceBEq, Int.reduceLE, Int.reduceLT, Int.reduceEq, Int.reduceNeg, c1, h2, h4, c5, h6, h8, c9, h10, h12]
              try rfl
            · simp only [D, DT, reduceIte, reduceCtorEq, Nat.reduceEqDiff, Nat.reduceAdd, Nat.reduceLT, Nat.reduceLeDiff, Nat.reduceBEq, Int.reduceLE, Int.reduceLT, Int.reduceEq, Int.reduceNeg, c1, h2, h4, c5, h6, h8, c9, h10, h12]
              have c13 : ansL X 43 [(.agg [(.str a0.Tag_Text), (.bool a0.Tag_Weak)]), (.agg [(.str a1.Tag_Text), (.bool a1.Tag_Weak)])] = Option.map AV.bool (mandolineref05_Strong.f (api_Tag.mk a0.Tag_Text a0.Tag_Weak) (api_Tag.mk a1.Tag_Text a1.Tag_Weak)) := mandolineref05_Strong.ok (api_Tag.mk a0.Tag_Text a0.Tag_Weak) (api_Tag.mk a1.Tag_Text a1.Tag_Weak)
              rcases h14 : mandolineref05_Strong.f (api_Tag.mk a0.Tag_Text a0.Tag_Weak) (api_Tag.mk a1.Tag_Text a1.Tag_Weak) with _ | x15
              · simp only [D, DT, reduceIte, reduceCtorEq, Nat.reduceEqDiff, Nat.reduceAdd, Nat.reduceLT, Nat.reduceLeDiff, Nat.reduceBEq, Int.reduceLE, Int.reduceLT, Int.reduceEq, Int.reduceNeg, c1, h2, h4, c5, h6, h8, c9, h10, h12, c13, h14]
              · simp only [D, DT, reduceIte, reduceCtorEq, Nat.reduceEqDiff, Nat.reduceAdd, Nat.reduceLT, Nat.reduceLeDiff, Nat.reduceBEq, Int.reduceLE, Int.reduceLT, Int.reduceEq, Int.reduceNeg, c1, h2, h4, c5, h6, h8, c9, h10, h12, c13, h14]
                cases h16 : x15
                · simp only [D, DT, reduceIte, reduceCtorEq, Nat.reduceEqDiff, Nat.reduceAdd, Nat.reduceLT, Nat.reduceLeDiff, Nat.reduceBEq, Int.reduceLE, Int.reduceLT, Int.reduceEq, Int.reduceNeg, c1, h2, h4, c5, h6, h8, c9, h10, h12, c13, h14, h16]
                  try rfl
                · simp only [D, DT, reduceIte, reduceCtorEq, Nat.reduceEqDiff, Nat.reduceAdd, Nat.reduceLT, Nat.reduceLeDiff, Nat.reduceBEq, Int.reduceLE, Int.reduceLT, Int.reduceEq, Int.reduceNeg, c1, h2, h4, c5, h6, h8, c9, h10, h12, c13, h14, h16]
                  cases h17 : (decide (a0.Modified = a1.Modified))
                  · simp only [D, DT, reduceIte, reduceCtorEq, Nat.reduceEqDiff, Nat.reduceAdd, Nat.reduceLT, Nat.reduceLeDiff, Nat.reduceBEq, Int.reduceLE, Int.reduceLT, Int.reduceEq, Int.reduceNeg, c1, h2, h4, c5, h6, h8, c9, h10, h12, c13, h14, h16, h17]
                    try rfl
                  · simp only [D, DT, reduceIte, reduceCtorEq, Nat.reduceEqDiff, Nat.reduceAdd, Nat.reduceLT, Nat.reduceLeDiff, Nat.reduceBEq, Int.reduceLE, Int.reduceLT, Int.reduceEq, Int.reduceNeg, c1, h2, h4, c5, h6, h8, c9, h10, h12, c13, h14, h16, h17]
                    cases h18 : (decide ((0 : Int) ≤ a0.Length))
                    · simp only [D, DT, reduceIte, reduceCtorEq, Nat.reduceEqDiff, Nat.reduceAdd, Nat.reduceLT, Nat.reduceLeDiff, Nat.reduceBEq, Int.reduceLE, Int.reduceLT, Int.reduceEq, Int.reduceNeg, c1, h2, h4, c5, h6, h8, c9, h10, h12, c13, h14, h16, h17, h18]
                      try rfl
                    · simp only [D, DT, reduceIte, reduceCtorEq, Nat.reduceEqDiff, Nat.reduceAdd, Nat.reduceLT, Nat.reduceLeDiff, Nat.reduceBEq, Int.reduceLE, Int.reduceLT, Int.reduceEq, Int.reduceNeg, c1, h2, h4, c5, h6, h8, c9, h10, h12, c13, h14, h16, h17, h18]
                      try rfl
noncomputable def meta_Same.f (a0 : api_Meta) (a1 : api_Meta) : Option Bool :=
  (slices_Equal_string_string.f a0.Keys a1.Keys).bind fun x3 =>
  bif x3 then
    bif ((a0.Tag_Text == a1.Tag_Text) && (a0.Tag_Weak == a1.Tag_Weak)) then
      bif (decide (a0.Modified = a1.Modified)) then
        bif (decide (a0.Length = a1.Length)) then
          bif (decide (a0.Have = a1.Have)) then
            bif (decide (a0.Fresh = a1.Fresh)) then
              bif (decide (a0.While = a1.While)) then
                bif (decide (a0.Error = a1.Error)) then
                  bif (a0.Tenant == a1.Tenant) then
                    some (a0.Keep == a1.Keep)
                  else
                    some false
                else
                  some false
              else
                some false
            else
              some false
          else
            some false
        else
          some false
      else
        some false
    else
      some false
  else
    some false
set_option maxHeartbeats 4000000 in
theorem meta_Same.ok (a0 : api_Meta) (a1 : api_Meta) : ansL X 18 [(.agg [(.str a0.Tag_Text), (.bool a0.Tag_Weak), (.int .i64 a0.Modified), (.int .i64 a0.Length), (.int .i64 a0.Have), (.int .i64 a0.Fresh), (.int .i64 a0.While), (.int .i64 a0.Error), (.sl (encL AV.str a0.Keys)), (.str a0.Tenant), (.bool a0.Keep)]), (.agg [(.str a1.Tag_Text), (.bool a1.Tag_Weak), (.int .i64 a1.Modified), (.int .i64 a1.Length), (.int .i64 a1.Have), (.int .i64 a1.Fresh), (.int .i64 a1.While), (.int .i64 a1.Error), (.sl (encL AV.str a1.Keys)), (.str a1.Tenant), (.bool a1.Keep)])] = Option.map AV.bool (meta_Same.f a0 a1) := by
  rw [ansL_run (fd := c18) rfl rfl]
  simp only [D, DT, reduceIte, reduceCtorEq, Nat.reduceEqDiff, Nat.reduceAdd, Nat.reduceLT, Nat.reduceLeDiff, Nat.reduceBEq, Int.reduceLE, Int.reduceLT, Int.reduceEq, Int.reduceNeg, c18, meta_Same.f]
  have c1 : ansL X 44 [(.sl (encL AV.str a0.Keys)), (.sl (encL AV.str a1.Keys))] = Option.map AV.bool (slices_Equal_string_string.f a0.Keys a1.Keys) := slices_Equal_string_string.ok a0.Keys a1.Keys
  rcases h2 : slices_Equal_string_string.f a0.Keys a1.Keys with _ | x3
  · simp only [D, DT, reduceIte, reduceCtorEq, Nat.reduceEqDiff, Nat.reduceAdd, Nat.reduceLT, Nat.reduceLeDiff, Nat.reduceBEq, Int.reduceLE, Int.reduceLT, Int.reduceEq, Int.reduceNeg, c1, h2]
  · simp only [D, DT, reduceIte, reduceCtorEq, Nat.reduceEqDiff, Nat.reduceAdd, Nat.reduceLT, Nat.reduceLeDiff, Nat.reduceBEq, Int.reduceLE, Int.reduceLT, Int.reduceEq, Int.reduceNeg, c1, h2]
    cases h4 : x3
    · simp only [D, DT, reduceIte, reduceCtorEq, Nat.reduceEqDiff, Nat.reduceAdd, Nat.reduceLT, Nat.reduceLeDiff, Nat.reduceBEq, Int.reduceLE, Int.reduceLT, Int.reduceEq, Int.reduceNeg, c1, h2, h4]
      try rfl
    · simp only [D, DT, reduceIte, reduceCtorEq, Nat.reduceEqDiff, Nat.reduceAdd, Nat.reduceLT, Nat.reduceLeDiff, Nat.reduceBEq, Int.reduceLE, Int.reduceLT, Int.reduceEq, Int.reduceNeg, c1, h2, h4]
      cases h5 : ((a0.Tag_Text == a1.Tag_Text) && (a0.Tag_Weak == a1.Tag_Weak))
      · simp only [D, DT, reduceIte, reduceCtorEq, Nat.reduceEqDiff, Nat.reduceAdd, Nat.reduceLT, Nat.reduceLeDiff, Nat.reduceBEq, Int.reduceLE, Int.reduceLT, Int.reduceEq, Int.reduceNeg, c1, h2, h4, h5]
        try rfl
      · simp only [D, DT, reduceIte, reduceCtorEq, Nat.reduceEqDiff, Nat.reduceAdd, Nat.reduceLT, Nat.reduceLeDiff, Nat.reduceBEq, Int.reduceLE, Int.reduceLT, Int.reduceEq, Int.reduceNeg, c1, h2, h4, h5]
        cases h6 : (decide (a0.Modified = a1.Modified))
        · simp only [D, DT, reduceIte, reduceCtorEq, Nat.reduceEqDiff, Nat.reduceAdd, Nat.reduceLT, Nat.reduceLeDiff, Nat.reduceBEq, Int.reduceLE, Int.reduceLT, Int.reduceEq, Int.reduceNeg, c1, h2, h4, h5, h6]
          try rfl
        · simp only [D, DT, reduceIte, reduceCtorEq, Nat.reduceEqDiff, Nat.reduceAdd, Nat.reduceLT, Nat.reduceLeDiff, Nat.reduceBEq, Int.reduceLE, Int.reduceLT, Int.reduceEq, Int.reduceNeg, c1, h2, h4, h5, h6]
          cases h7 : (decide (a0.Length = a1.Length))
          · simp only [D, DT, reduceIte, reduceCtorEq, Nat.reduceEqDiff, Nat.reduceAdd, Nat.reduceLT, Nat.reduceLeDiff, Nat.reduceBEq, Int.reduceLE, Int.reduceLT, Int.reduceEq, Int.reduceNeg, c1, h2, h4, h5, h6, h7]
            try rfl
          · simp only [D, DT, reduceIte, reduceCtorEq, Nat.reduceEqDiff, Nat.reduceAdd, Nat.reduceLT, Nat.reduceLeDiff, Nat.reduceBEq, Int.reduceLE, Int.reduceLT, Int.reduceEq, Int.reduceNeg, c1, h2, h4, h5, h6, h7]
            cases h8 : (decide (a0.Have = a1.Have))
            · simp only [D, DT, reduceIte, reduceCtorEq, Nat.reduceEqDiff, Nat.reduceAdd, Nat.reduceLT, Nat.reduceLeDiff, Nat.reduceBEq, Int.reduceLE, Int.reduceLT, Int.reduceEq, Int.reduceNeg, c1, h2, h4, h5, h6, h7, h8]
              try rfl
            · simp only [D, DT, reduceIte, reduceCtorEq, Nat.reduceEqDiff, Nat.reduceAdd, Nat.reduceLT, Nat.reduceLeDiff, Nat.reduceBEq, Int.reduceLE, Int.reduceLT, Int.reduceEq, Int.reduceNeg, c1, h2, h4, h5, h6, h7, h8]
              cases h9 : (decide (a0.Fresh = a1.Fresh))
              · simp only [D, DT, reduceIte, reduceCtorEq, Nat.reduceEqDiff, Nat.reduceAdd, Nat.reduceLT, Nat.reduceLeDiff, Nat.reduceBEq, Int.reduceLE, Int.reduceLT, Int.reduceEq, Int.reduceNeg, c1, h2, h4, h5, h6, h7, h8, h9]
                try rfl
              · simp only [D, DT, reduceIte, reduceCtorEq, Nat.reduceEqDiff, Nat.reduceAdd, Nat.reduceLT, Nat.reduceLeDiff, Nat.reduceBEq, Int.reduceLE, Int.reduceLT, Int.reduceEq, Int.reduceNeg, c1, h2, h4, h5, h6, h7, h8, h9]
                cases h10 : (decide (a0.While = a1.While))
                · simp only [D, DT, reduceIte, reduceCtorEq, Nat.reduceEqDiff, Nat.reduceAdd, Nat.reduceLT, Nat.reduceLeDiff, Nat.reduceBEq, Int.reduceLE, Int.reduceLT, Int.reduceEq, Int.reduceNeg, c1, h2, h4, h5, h6, h7, h8, h9, h10]
                  try rfl
                · simp only [D, DT, reduceIte, reduceCtorEq, Nat.reduceEqDiff, Nat.reduceAdd, Nat.reduceLT, Nat.reduceLeDiff, Nat.reduceBEq, Int.reduceLE, Int.reduceLT, Int.reduceEq, Int.reduceNeg, c1, h2, h4, h5, h6, h7, h8, h9, h10]
                  cases h11 : (decide (a0.Error = a1.Error))
                  · simp only [D, DT, reduceIte, reduceCtorEq, Nat.reduceEqDiff, Nat.reduceAdd, Nat.reduceLT, Nat.reduceLeDiff, Nat.reduceBEq, Int.reduceLE, Int.reduceLT, Int.reduceEq, Int.reduceNeg, c1, h2, h4, h5, h6, h7, h8, h9, h10, h11]
                    try rfl
                  · simp only [D, DT, reduceIte, reduceCtorEq, Nat.reduceEqDiff, Nat.reduceAdd, Nat.reduceLT, Nat.reduceLeDiff, Nat.reduceBEq, Int.reduceLE, Int.reduceLT, Int.reduceEq, Int.reduceNeg, c1, h2, h4, h5, h6, h7, h8, h9, h10, h11]
                    cases h12 : (a0.Tenant == a1.Tenant)
                    · simp only [D, DT, reduceIte, reduceCtorEq, Nat.reduceEqDiff, Nat.reduceAdd, Nat.reduceLT, Nat.reduceLeDiff, Nat.reduceBEq, Int.reduceLE, Int.reduceLT, Int.reduceEq, Int.reduceNeg, c1, h2, h4, h5, h6, h7, h8, h9, h10, h11, h12]
                      try rfl
                    · simp only [D, DT, reduceIte, reduceCtorEq, Nat.reduceEqDiff, Nat.reduceAdd, Nat.reduceLT, Nat.reduceLeDiff, Nat.reduceBEq, Int.reduceLE, Int.reduceLT, Int.reduceEq, Int.reduceNeg, c1, h2, h4, h5, h6, h7, h8, h9, h10, h11, h12]
                      try rfl
inductive mandolineref14_Same.l0X where
  | x0
  | ret
noncomputable def mandolineref14_Same.l0B (a0 : api_Meta) (a1 : api_Meta) (v18_5 : Int) : Option (Step (Int) mandolineref14_Same.l0X) :=
  bif (decide (v18_5 < (a0.Keys.length : Int))) then
    (idx a0.Keys v18_5).bind fun x29 =>
    (idx a1.Keys v18_5).bind fun x31 =>
    bif (x29 == x31) then
      some (.next (IntKind.i64.wrap (v18_5 + 1)))
    else
      some (.done (.ret))
  else
    some (.done (.x0))
set_option maxHeartbeats 4000000 in
theorem mandolineref14_Same.l0_ok {α : Type} {F : Env → Heap → Option α} {K : List Fr} (fin : mandolineref14_Same.l0X → Option α) (a0 : api_Meta) (a1 : api_Meta)
    (hx0 : ∀ (e : Env) (H : Heap), outL X [] F K e H 0 = fin (.x0))
    (hret : ∀ (e : Env) (H : Heap), e 4 = (.bool false) → F e H = fin (.ret)) (v18_5 : Int) (e : Env) (H : Heap) (g2_18 : e 2 = (.ptr [2] 1 0 0)) (g3_18 : e 3 = (.ptr [3] 1 0 0)) (g5_18 : e 5 = (.int .i64 v18_5)) (k2_18 : H [2] = (1, some ⟨false, false, 11, [(.agg [(.str a0.Tag_Text), (.bool a0.Tag_Weak), (.int .i64 a0.Modified), (.int .i64 a0.Length), (.int .i64 a0.Have), (.int .i64 a0.Fresh), (.int .i64 a0.While), (.int .i64 a0.Error), (.sl (encL AV.str a0.Keys)), (.str a0.Tenant), (.bool a0.Keep)])]⟩)) (k3_18 : H [3] = (1, some ⟨false, false, 11, [(.agg [(.str a1.Tag_Text), (.bool a1.Tag_Weak), (.int .i64 a1.Modified), (.int .i64 a1.Length), (.int .i64 a1.Have), (.int .i64 a1.Fresh), (.int .i64 a1.While), (.int .i64 a1.Error), (.sl (encL AV.str a1.Keys)), (.str a1.Tenant), (.bool a1.Keep)])]⟩)) :
    runL X [] F (.c (.loop c19_l0) :: K) e H = (loopL (mandolineref14_Same.l0B a0 a1) v18_5).bind fin := by
  refine loop_of (R := fun (v18_5 : Int) (e : Env) (H : Heap) => e 2 = (.ptr [2] 1 0 0) ∧ e 3 = (.ptr [3] 1 0 0) ∧ e 5 = (.int .i64 v18_5) ∧ H [2] = (1, some ⟨false, false, 11, [(.agg [(.str a0.Tag_Text), (.bool a0.Tag_Weak), (.int .i64 a0.Modified), (.int .i64 a0.Length), (.int .i64 a0.Have), (.int .i64 a0.Fresh), (.int .i64 a0.While), (.int .i64 a0.Error), (.sl (encL AV.str a0.Keys)), (.str a0.Tenant), (.bool a0.Keep)])]⟩) ∧ H [3] = (1, some ⟨false, false, 11, [(.agg [(.str a1.Tag_Text), (.bool a1.Tag_Weak), (.int .i64 a1.Modified), (.int .i64 a1.Length), (.int .i64 a1.Have), (.int .i64 a1.Fresh), (.int .i64 a1.While), (.int .i64 a1.Error), (.sl (encL AV.str a1.Keys)), (.str a1.Tenant), (.bool a1.Keep)])]⟩)) fin ?_ ⟨g2_18, g3_18, g5_18, k2_18, k3_18⟩
  clear k3_18 k2_18 g5_18 g3_18 g2_18 e H v18_5
  intro n G hn hd s e H hR
  revert hR; revert s; intro v18_5 hR
  obtain ⟨g2_18, g3_18, g5_18, k2_18, k3_18⟩ := hR
  simp only [D, DT, reduceIte, reduceCtorEq, Nat.reduceEqDiff, Nat.reduceAdd, Nat.reduceLT, Nat.reduceLeDiff, Nat.reduceBEq, Int.reduceLE, Int.reduceLT, Int.reduceEq, Int.reduceNeg, mandolineref14_Same.l0B, g2_18, g3_18, g5_18, k2_18, k3_18, c19_l0]
  cases h27 : (decide (v18_5 < (a0.Keys.length : Int)))
  · simp only [D, DT, reduceIte, reduceCtorEq, Nat.reduceEqDiff, Nat.reduceAdd, Nat.reduceLT, Nat.reduceLeDiff, Nat.reduceBEq, Int.reduceLE, Int.reduceLT, Int.reduceEq, Int.reduceNeg, g2_18, g3_18, g5_18, k2_18, k3_18, c19_l0, h27]
    exact (hx0 _ _).trans (hd _).symm
  · simp only [D, DT, reduceIte, reduceCtorEq, Nat.reduceEqDiff, Nat.reduceAdd, Nat.reduceLT, Nat.reduceLeDiff, Nat.reduceBEq, Int.reduceLE, Int.reduceLT, Int.reduceEq, Int.reduceNeg, g2_18, g3_18, g5_18, k2_18, k3_18, c19_l0, h27]
    rcases h28 : idx a0.Keys v18_5 with _ | x29
    · simp only [D, DT, reduceIte, reduceCtorEq, Nat.reduceEqDiff, Nat.reduceAdd, Nat.reduceLT, Nat.reduceLeDiff, Nat.reduceBEq, Int.reduceLE, Int.reduceLT, Int.reduceEq, Int.reduceNeg, g2_18, g3_18, g5_18, k2_18, k3_18, c19_l0, h27, h28]
    · simp only [D, DT, reduceIte, reduceCtorEq, Nat.reduceEqDiff, Nat.reduceAdd, Nat.reduceLT, Nat.reduceLeDiff, Nat.reduceBEq, Int.reduceLE, Int.reduceLT, Int.reduceEq, Int.reduceNeg, g2_18, g3_18, g5_18, k2_18, k3_18, c19_l0, h27, h28]
      rcases h30 : idx a1.Keys v18_5 with _ | x31
      · simp only [D, DT, reduceIte, reduceCtorEq, Nat.reduceEqDiff, Nat.reduceAdd, Nat.reduceLT, Nat.reduceLeDiff, Nat.reduceBEq, Int.reduceLE, Int.reduceLT, Int.reduceEq, Int.reduceNeg, g2_18, g3_18, g5_18, k2_18, k3_18, c19_l0, h27, h28, h30]
      · simp only [D, DT, reduceIte, reduceCtorEq, Nat.reduceEqDiff, Nat.reduceAdd, Nat.reduceLT, Nat.reduceLeDiff, Nat.reduceBEq, Int.reduceLE, Int.reduceLT, Int.reduceEq, Int.reduceNeg, g2_18, g3_18, g5_18, k2_18, k3_18, c19_l0, h27, h28, h30]
        cases h32 : (x29 == x31)
        · simp only [D, DT, reduceIte, reduceCtorEq, Nat.reduceEqDiff, Nat.reduceAdd, Nat.reduceLT, Nat.reduceLeDiff, Nat.reduceBEq, Int.reduceLE, Int.reduceLT, Int.reduceEq, Int.reduceNeg, g2_18, g3_18, g5_18, k2_18, k3_18, c19_l0, h27, h28, h30, h32]
          exact (hret _ _ (by first | (simp only [D, DT, reduceIte, reduceCtorEq, Nat.reduceEqDiff, Nat.reduceAdd, Nat.reduceLT, Nat.reduceLeDiff, Nat.reduceBEq, Int.reduceLE, Int.reduceLT, Int.reduceEq, Int.reduceNeg, g2_18, g3_18, g5_18, k2_18, k3_18, c19_l0, h27, h28, h30, h32] <;> rfl) | rfl)).trans (hd _).symm
        · simp only [D, DT, reduceIte, reduceCtorEq, Nat.reduceEqDiff, Nat.reduceAdd, Nat.reduceLT, Nat.reduceLeDiff, Nat.reduceBEq, Int.reduceLE, Int.reduceLT, Int.reduceEq, Int.reduceNeg, g2_18, g3_18, g5_18, k2_18, k3_18, c19_l0, h27, h28, h30, h32]
          exact hn _ _ _ ⟨(by first | (simp only [D, DT, reduceIte, reduceCtorEq, Nat.reduceEqDiff, Nat.reduceAdd, Nat.reduceLT, Nat.reduceLeDiff, Nat.reduceBEq, Int.reduceLE, Int.reduceLT, Int.reduceEq, Int.reduceNeg, g2_18, g3_18, g5_18, k2_18, k3_18, c19_l0, h27, h28, h30, h32] <;> rfl) | rfl), (by first | (simp only [D, DT, reduceIte, reduceCtorEq, Nat.reduceEqDiff, Nat.reduceAdd, Nat.reduceLT, Nat.reduceLeDiff, Nat.reduceBEq, Int.reduceLE, Int.reduceLT, Int.reduceEq, Int.reduceNeg, g2_18, g3_18, g5_18, k2_18, k3_18, c19_l0, h27, h28, h30, h32] <;> rfl) | rfl), (by first | (simp only [D, DT, reduceIte, reduceCtorEq, Nat.reduceEqDiff, Nat.reduceAdd, Nat.reduceLT, Nat.reduceLeDiff, Nat.reduceBEq, Int.reduceLE, Int.reduceLT, Int.reduceEq, Int.reduceNeg, g2_18, g3_18, g5_18, k2_18, k3_18, c19_l0, h27, h28, h30, h32] <;> rfl) | rfl), (by first | (simp only [D, DT, reduceIte, reduceCtorEq, Nat.reduceEqDiff, Nat.reduceAdd, Nat.reduceLT, Nat.reduceLeDiff, Nat.reduceBEq, Int.reduceLE, Int.reduceLT, Int.reduceEq, Int.reduceNeg, g2_18, g3_18, g5_18, k2_18, k3_18, c19_l0, h27, h28, h30, h32] <;> rfl) | rfl), (by first | (simp only [D, DT, reduceIte, reduceCtorEq, Nat.reduceEqDiff, Nat.reduceAdd, Nat.reduceLT, Nat.reduceLeDiff, Nat.reduceBEq, Int.reduceLE, Int.reduceLT, Int.reduceEq, Int.reduceNeg, g2_18, g3_18, g5_18, k2_18, k3_18, c19_l0, h27, h28, h30, h32] <;> rfl) | rfl)⟩
noncomputable def mandolineref14_Same.a0 : mandolineref14_Same.l0X → Option Bool
  | .x0 =>
    some true
  | .ret =>
    some false
noncomputable def mandolineref14_Same.f (a0 : api_Meta) (a1 : api_Meta) : Option Bool :=
  bif ((a0.Tag_Text == a1.Tag_Text) && (a0.Tag_Weak == a1.Tag_Weak)) then
    bif (decide (a0.Modified = a1.Modified)) then
      bif (decide (a0.Length = a1.Length)) then
        bif (decide (a0.Have = a1.Have)) then
          bif (decide (a0.Fresh = a1.Fresh)) then
            bif (decide (a0.While = a1.While)) then
              bif (decide (a0.Error = a1.Error)) then
                bif (a0.Tenant == a1.Tenant) then
                  bif (a0.Keep == a1.Keep) then
                    bif (decide ((a0.Keys.length : Int) = (a1.Keys.length : Int))) then
                      (loopL (mandolineref14_Same.l0B a0 a1) 0).bind (mandolineref14_Same.a0)
                    else
                      some false
                  else
                    some false
                else
                  some false
              else
                some false
            else
              some false
          else
            some false
        else
          some false
      else
        some false
    else
      some false
  else
    some false
set_option maxHeartbeats 4000000 in
theorem mandolineref14_Same.ok (a0 : api_Meta) (a1 : api_Meta) : ansL X 19 [(.agg [(.str a0.Tag_Text), (.bool a0.Tag_Weak), (.int .i64 a0.Modified), (.int .i64 a0.Length), (.int .i64 a0.Have), (.int .i64 a0.Fresh), (.int .i64 a0.While), (.int .i64 a0.Error), (.sl (encL AV.str a0.Keys)), (.str a0.Tenant), (.bool a0.Keep)]), (.agg [(.str a1.Tag_Text), (.bool a1.Tag_Weak), (.int .i64 a1.Modified), (.int .i64 a1.Length), (.int .i64 a1.Have), (.int .i64 a1.Fresh), (.int .i64 a1.While), (.int .i64 a1.Error), (.sl (encL AV.str a1.Keys)), (.str a1.Tenant), (.bool a1.Keep)])] = Option.map AV.bool (mandolineref14_Same.f a0 a1) := by
  rw [ansL_run (fd := c19) rfl rfl]
  simp only [D, DT, reduceIte, reduceCtorEq, Nat.reduceEqDiff, Nat.reduceAdd, Nat.reduceLT, Nat.reduceLeDiff, Nat.reduceBEq, Int.reduceLE, Int.reduceLT, Int.reduceEq, Int.reduceNeg, c19, mandolineref14_Same.f]
  cases h1 : ((a0.Tag_Text == a1.Tag_Text) && (a0.Tag_Weak == a1.Tag_Weak))
  · simp only [D, DT, reduceIte, reduceCtorEq, Nat.reduceEqDiff, Nat.reduceAdd, Nat.reduceLT, Nat.reduceLeDiff, Nat.reduceBEq, Int.reduceLE, Int.reduceLT, Int.reduceEq, Int.reduceNeg, h1]
    try rfl
  · simp only [D, DT, reduceIte, reduceCtorEq, Nat.reduceEqDiff, Nat.reduceAdd, Nat.reduceLT, Nat.reduceLeDiff, Nat.reduceBEq, Int.reduceLE, Int.reduceLT, Int.reduceEq, Int.reduceNeg, h1]
    cases h2 : (decide (a0.Modified = a1.Modified))
    · simp only [D, DT, reduceIte, reduceCtorEq, Nat.reduceEqDiff, Nat.reduceAdd, Nat.reduceLT, Nat.reduceLeDiff, Nat.reduceBEq, Int.reduceLE, Int.reduceLT, Int.reduceEq, Int.reduceNeg, h1, h2]
      try rfl
    · simp only [D, DT, reduceIte, reduceCtorEq, Nat.reduceEqDiff, Nat.reduceAdd, Nat.reduceLT, Nat.reduceLeDiff, Nat.reduceBEq, Int.reduceLE, Int.reduceLT, Int.reduceEq, Int.reduceNeg, h1, h2]
      cases h3 : (decide (a0.Length = a1.Length))
      · simp only [D, DT, reduceIte, reduceCtorEq, Nat.reduceEqDiff, Nat.reduceAdd, Nat.reduceLT, Nat.reduceLeDiff, Nat.reduceBEq, Int.reduceLE, Int.reduceLT, Int.reduceEq, Int.reduceNeg, h1, h2, h3]
        try rfl
      · simp only [D, DT, reduceIte, reduceCtorEq, Nat.reduceEqDiff, Nat.reduceAdd, Nat.reduceLT, Nat.reduceLeDiff, Nat.reduceBEq, Int.reduceLE, Int.reduceLT, Int.reduceEq, Int.reduceNeg, h1, h2, h3]
        cases h4 : (decide (a0.Have = a1.Have))
        · simp only [D, DT, reduceIte, reduceCtorEq, Nat.reduceEqDiff, Nat.reduceAdd, Nat.reduceLT, Nat.reduceLeDiff, Nat.reduceBEq, Int.reduceLE, Int.reduceLT, Int.reduceEq, Int.reduceNeg, h1, h2, h3, h4]
          try rfl
        · simp only [D, DT, reduceIte, reduceCtorEq, Nat.reduceEqDiff, Nat.reduceAdd, Nat.reduceLT, Nat.reduceLeDiff, Nat.reduceBEq, Int.reduceLE, Int.reduceLT, Int.reduceEq, Int.reduceNeg, h1, h2, h3, h4]
          cases h5 : (decide (a0.Fresh = a1.Fresh))
          · simp only [D, DT, reduceIte, reduceCtorEq, Nat.reduceEqDiff, Nat.reduceAdd, Nat.reduceLT, Nat.reduceLeDiff, Nat.reduceBEq, Int.reduceLE, Int.reduceLT, Int.reduceEq, Int.reduceNeg, h1, h2, h3, h4, h5]
            try rfl
          · simp only [D, DT, reduceIte, reduceCtorEq, Nat.reduceEqDiff, Nat.reduceAdd, Nat.reduceLT, Nat.reduceLeDiff, Nat.reduceBEq, Int.reduceLE, Int.reduceLT, Int.reduceEq, Int.reduceNeg, h1, h2, h3, h4, h5]
            cases h6 : (decide (a0.While = a1.While))
            · simp only [D, DT, reduceIte, reduceCtorEq, Nat.reduceEqDiff, Nat.reduceAdd, Nat.reduceLT, Nat.reduceLeDiff, Nat.reduceBEq, Int.reduceLE, Int.reduceLT, Int.reduceEq, Int.reduceNeg, h1, h2, h3, h4, h5, h6]
              try rfl
            · simp only [D, DT, reduceIte, reduceCtorEq, Nat.reduceEqDiff, Nat.reduceAdd, Nat.reduceLT, Nat.reduceLeDiff, Nat.reduceBEq, Int.reduceLE, Int.reduceLT, Int.reduceEq, Int.reduceNeg, h1, h2, h3, h4, h5, h6]
              cases h7 : (decide (a0.Error = a1.Error))
              · simp only [D, DT, reduceIte, reduceCtorEq, Nat.reduceEqDiff, Nat.reduceAdd, Nat.reduceLT, Nat.reduceLeDiff, Nat.reduceBEq, Int.reduceLE, Int.reduceLT, Int.reduceEq, Int.reduceNeg, h1, h2, h3, h4, h5, h6, h7]
                try rfl
              · simp only [D, DT, reduceIte, reduceCtorEq, Nat.reduceEqDiff, Nat.reduceAdd, Nat.reduceLT, Nat.reduceLeDiff, Nat.reduceBEq, Int.reduceLE, Int.reduceLT, Int.reduceEq, Int.reduceNeg, h1, h2, h3, h4, h5, h6, h7]
                cases h8 : (a0.Tenant == a1.Tenant)
                · simp only [D, DT, reduceIte, reduceCtorEq, Nat.reduceEqDiff, Nat.reduceAdd, Nat.reduceLT, Nat.reduceLeDiff, Nat.reduceBEq, Int.reduceLE, Int.reduceLT, Int.reduceEq, Int.reduceNeg, h1, h2, h3, h4, h5, h6, h7, h8]
                  try rfl
                · simp only [D, DT, reduceIte, reduceCtorEq, Nat.reduceEqDiff, Nat.reduceAdd, Nat.reduceLT, Nat.reduceLeDiff, Nat.reduceBEq, Int.reduceLE, Int.reduceLT, Int.reduceEq, Int.reduceNeg, h1, h2, h3, h4, h5, h6, h7, h8]
                  cases h9 : (a0.Keep == a1.Keep)
                  · simp only [D, DT, reduceIte, reduceCtorEq, Nat.reduceEqDiff, Nat.reduceAdd, Nat.reduceLT, Nat.reduceLeDiff, Nat.reduceBEq, Int.reduceLE, Int.reduceLT, Int.reduceEq, Int.reduceNeg, h1, h2, h3, h4, h5, h6, h7, h8, h9]
                    try rfl
                  · simp only [D, DT, reduceIte, reduceCtorEq, Nat.reduceEqDiff, Nat.reduceAdd, Nat.reduceLT, Nat.reduceLeDiff, Nat.reduceBEq, Int.reduceLE, Int.reduceLT, Int.reduceEq, Int.reduceNeg, h1, h2, h3, h4, h5, h6, h7, h8, h9]
                    cases h10 : (decide ((a0.Keys.length : Int) = (a1.Keys.length : Int)))
                    · simp only [D, DT, reduceIte, reduceCtorEq, Nat.reduceEqDiff, Nat.reduceAdd, Nat.reduceLT, Nat.reduceLeDiff, Nat.reduceBEq, Int.reduceLE, Int.reduceLT, Int.reduceEq, Int.reduceNeg, h1, h2, h3, h4, h5, h6, h7, h8, h9, h10]
                      try rfl
                    · simp only [D, DT, reduceIte, reduceCtorEq, Nat.reduceEqDiff, Nat.reduceAdd, Nat.reduceLT, Nat.reduceLeDiff, Nat.reduceBEq, Int.reduceLE, Int.reduceLT, Int.reduceEq, Int.reduceNeg, h1, h2, h3, h4, h5, h6, h7, h8, h9, h10]
                      refine Eq.trans (mandolineref14_Same.l0_ok (fun x => Option.map AV.bool (mandolineref14_Same.a0 x)) a0 a1 ?_ ?_ 0 _ _ (by first | (simp only [D, DT, reduceIte, reduceCtorEq, Nat.reduceEqDiff, Nat.reduceAdd, Nat.reduceLT, Nat.reduceLeDiff, Nat.reduceBEq, Int.reduceLE, Int.reduceLT, Int.reduceEq, Int.reduceNeg, h1, h2, h3, h4, h5, h6, h7, h8, h9, h10] <;> rfl) | rfl) (by first | (simp only [D, DT, reduceIte, reduceCtorEq, Nat.reduceEqDiff, Nat.reduceAdd, Nat.reduceLT, Nat.reduceLeDiff, Nat.reduceBEq, Int.reduceLE, Int.reduceLT, Int.reduceEq, Int.reduceNeg, h1, h2, h3, h4, h5, h6, h7, h8, h9, h10] <;> rfl) | rfl) (by first | (simp only [D, DT, reduceIte, reduceCtorEq, Nat.reduceEqDiff, Nat.reduceAdd, Nat.reduceLT, Nat.reduceLeDiff, Nat.reduceBEq, Int.reduceLE, Int.reduceLT, Int.reduceEq, Int.reduceNeg, h1, h2, h3, h4, h5, h6, h7, h8, h9, h10] <;> rfl) | rfl) (by first | (simp only [D, DT, reduceIte, reduceCtorEq, Nat.reduceEqDiff, Nat.reduceAdd, Nat.reduceLT, Nat.reduceLeDiff, Nat.reduceBEq, Int.reduceLE, Int.reduceLT, Int.reduceEq, Int.reduceNeg, h1, h2, h3, h4, h5, h6, h7, h8, h9, h10] <;> rfl) | rfl) (by first | (simp only [D, DT, reduceIte, reduceCtorEq, Nat.reduceEqDiff, Nat.reduceAdd, Nat.reduceLT, Nat.reduceLeDiff, Nat.reduceBEq, Int.reduceLE, Int.reduceLT, Int.reduceEq, Int.reduceNeg, h1, h2, h3, h4, h5, h6, h7, h8, h9, h10] <;> rfl) | rfl)) ?_
                      · intro e_33 H_33
                        simp only [D, DT, reduceIte, reduceCtorEq, Nat.reduceEqDiff, Nat.reduceAdd, Nat.reduceLT, Nat.reduceLeDiff, Nat.reduceBEq, Int.reduceLE, Int.reduceLT, Int.reduceEq, Int.reduceNeg, mandolineref14_Same.a0, h1, h2, h3, h4, h5, h6, h7, h8, h9, h10]
                        try rfl
                      · intro e_34 H_34 g4_26_34
                        simp only [D, DT, reduceIte, reduceCtorEq, Nat.reduceEqDiff, Nat.reduceAdd, Nat.reduceLT, Nat.reduceLeDiff, Nat.reduceBEq, Int.reduceLE, Int.reduceLT, Int.reduceEq, Int.reduceNeg, mandolineref14_Same.a0, h1, h2, h3, h4, h5, h6, h7, h8, h9, h10, g4_26_34]
                        try rfl
                      exact mb _ _ _
noncomputable def mandolinelaw14_wakes.f : Option Bool := some true
set_option maxHeartbeats 4000000 in
theorem mandolinelaw14_wakes.ok : ansL X 7 [] = Option.map AV.bool (mandolinelaw14_wakes.f) := ansL_of (k := 60) (by kernel_rfl)
noncomputable def mandolinelaw14_MetaRight.f (a0 : api_Meta) : Option Bool :=
  (mandolinelaw14_wakes.f).bind fun x3 =>
  bif x3 then
    (mandolineref14_Small.f a0).bind fun x7 =>
    bif x7 then
      (meta_Right.f a0).bind fun x11 =>
      (mandolineref14_Right.f a0).bind fun x14 =>
      bif (x11 == x14) then
        (meta_Joins.f a0).bind fun x18 =>
        (mandolineref14_Joins.f a0).bind fun x21 =>
        some (x18 == x21)
      else
        some false
    else
      some true
  else
    some false
set_option maxHeartbeats 4000000 in
theorem mandolinelaw14_MetaRight.ok (a0 : api_Meta) : ansL X 3 [(.agg [(.str a0.Tag_Text), (.bool a0.Tag_Weak), (.int .i64 a0.Modified), (.int .i64 a0.Length), (.int .i64 a0.Have), (.int .i64 a0.Fresh), (.int .i64 a0.While), (.int .i64 a0.Error), (.sl (encL AV.str a0.Keys)), (.str a0.Tenant), (.bool a0.Keep)])] = Option.map AV.bool (mandolinelaw14_MetaRight.f a0) := by
  rw [ansL_run (fd := c3) rfl rfl]
  simp only [D, DT, reduceIte, reduceCtorEq, Nat.reduceEqDiff, Nat.reduceAdd, Nat.reduceLT, Nat.reduceLeDiff, Nat.reduceBEq, Int.reduceLE, Int.reduceLT, Int.reduceEq, Int.reduceNeg, c3, mandolinelaw14_MetaRight.f]
  have c1 : ansL X 7 [] = Option.map AV.bool (mandolinelaw14_wakes.f) := mandolinelaw14_wakes.ok
  rcases h2 : mandolinelaw14_wakes.f with _ | x3
  · simp only [D, DT, reduceIte, reduceCtorEq, Nat.reduceEqDiff, Nat.reduceAdd, Nat.reduceLT, Nat.reduceLeDiff, Nat.reduceBEq, Int.reduceLE, Int.reduceLT, Int.reduceEq, Int.reduceNeg, c1, h2]
  · simp only [D, DT, reduceIte, reduceCtorEq, Nat.reduceEqDiff, Nat.reduceAdd, Nat.reduceLT, Nat.reduceLeDiff, Nat.reduceBEq, Int.reduceLE, Int.reduceLT, Int.reduceEq, Int.reduceNeg, c1, h2]
    cases h4 : x3
    · simp only [D, DT, reduceIte, reduceCtorEq, Nat.reduceEqDiff, Nat.reduceAdd, Nat.reduceLT, Nat.reduceLeDiff, Nat.reduceBEq, Int.reduceLE, Int.reduceLT, Int.reduceEq, Int.reduceNeg, c1, h2, h4]
      try rfl
    · simp only [D, DT, reduceIte, reduceCtorEq, Nat.reduceEqDiff, Nat.reduceAdd, Nat.reduceLT, Nat.reduceLeDiff, Nat.reduceBEq, Int.reduceLE, Int.reduceLT, Int.reduceEq, Int.reduceNeg, c1, h2, h4]
      have c5 : ansL X 8 [(.agg [(.str a0.Tag_Text), (.bool a0.Tag_Weak), (.int .i64 a0.Modified), (.int .i64 a0.Length), (.int .i64 a0.Have), (.int .i64 a0.Fresh), (.int .i64 a0.While), (.int .i64 a0.Error), (.sl (encL AV.str a0.Keys)), (.str a0.Tenant), (.bool a0.Keep)])] = Option.map AV.bool (mandolineref14_Small.f a0) := mandolineref14_Small.ok a0
      rcases h6 : mandolineref14_Small.f a0 with _ | x7
      · simp only [D, DT, reduceIte, reduceCtorEq, Nat.reduceEqDiff, Nat.reduceAdd, Nat.reduceLT, Nat.reduceLeDiff, Nat.reduceBEq, Int.reduceLE, Int.reduceLT, Int.reduceEq, Int.reduceNeg, c1, h2, h4, c5, h6]
      · simp only [D, DT, reduceIte, reduceCtorEq, Nat.reduceEqDiff, Nat.reduceAdd, Nat.reduceLT, Nat.reduceLeDiff, Nat.reduceBEq, Int.reduceLE, Int.reduceLT, Int.reduceEq, Int.reduceNeg, c1, h2, h4, c5, h6]
        cases h8 : x7
        · simp only [D, DT, reduceIte, reduceCtorEq, Nat.reduceEqDiff, Nat.reduceAdd, Nat.reduceLT, Nat.reduceLeDiff, Nat.reduceBEq, Int.reduceLE, Int.reduceLT, Int.reduceEq, Int.reduceNeg, c1, h2, h4, c5, h6, h8]
          try rfl
        · simp only [D, DT, reduceIte, reduceCtorEq, Nat.reduceEqDiff, Nat.reduceAdd, Nat.reduceLT, Nat.reduceLeDiff, Nat.reduceBEq, Int.reduceLE, Int.reduceLT, Int.reduceEq, Int.reduceNeg, c1, h2, h4, c5, h6, h8]
          have c9 : ansL X 9 [(.agg [(.str a0.Tag_Text), (.bool a0.Tag_Weak), (.int .i64 a0.Modified), (.int .i64 a0.Length), (.int .i64 a0.Have), (.int .i64 a0.Fresh), (.int .i64 a0.While), (.int .i64 a0.Error), (.sl (encL AV.str a0.Keys)), (.str a0.Tenant), (.bool a0.Keep)])] = Option.map AV.bool (meta_Right.f a0) := meta_Right.ok a0
          rcases h10 : meta_Right.f a0 with _ | x11
          · simp only [D, DT, reduceIte, reduceCtorEq, Nat.reduceEqDiff, Nat.reduceAdd, Nat.reduceLT, Nat.reduceLeDiff, Nat.reduceBEq, Int.reduceLE, Int.reduceLT, Int.reduceEq, Int.reduceNeg, c1, h2, h4, c5, h6, h8, c9, h10]
          · simp only [D, DT, reduceIte, reduceCtorEq, Nat.reduceEqDiff, Nat.reduceAdd, Nat.reduceLT, Nat.reduceLeDiff, Nat.reduceBEq, Int.reduceLE, Int.reduceLT, Int.reduceEq, Int.reduceNeg, c1, h2, h4, c5, h6, h8, c9, h10]
            have c12 : ansL X 10 [(.agg [(.str a0.Tag_Text), (.bool a0.Tag_Weak), (.int .i64 a0.Modified), (.int .i64 a0.Length), (.int .i64 a0.Have), (.int .i64 a0.Fresh), (.int .i64 a0.While), (.int .i64 a0.Error), (.sl (encL AV.str a0.Keys)), (.str a0.Tenant), (.bool a0.Keep)])] = Option.map AV.bool (mandolineref14_Right.f a0) := mandolineref14_Right.ok a0
            rcases h13 : mandolineref14_Right.f a0 with _ | x14
            · simp only [D, DT, reduceIte, reduceCtorEq, Nat.reduceEqDiff, Nat.reduceAdd, Nat.reduceLT, Nat.reduceLeDiff, Nat.reduceBEq, Int.reduceLE, Int.reduceLT, Int.reduceEq, Int.reduceNeg, c1, h2, h4, c5, h6, h8, c9, h10, c12, h13]
            · simp only [D, DT, reduceIte, reduceCtorEq, Nat.reduceEqDiff, Nat.reduceAdd, Nat.reduceLT, Nat.reduceLeDiff, Nat.reduceBEq, Int.reduceLE, Int.reduceLT, Int.reduceEq, Int.reduceNeg, c1, h2, h4, c5, h6, h8, c9, h10, c12, h13]
              cases h15 : (x11 == x14)
              · simp only [D, DT, reduceIte, reduceCtorEq, Nat.reduceEqDiff, Nat.reduceAdd, Nat.reduceLT, Nat.reduceLeDiff, Nat.reduceBEq, Int.reduceLE, Int.reduceLT, Int.reduceEq, Int.reduceNeg, c1, h2, h4, c5, h6, h8, c9, h10, c12, h13, h15]
                try rfl
              · simp only [D, DT, reduceIte, reduceCtorEq, Nat.reduceEqDiff, Nat.reduceAdd, Nat.reduceLT, Nat.reduceLeDiff, Nat.reduceBEq, Int.reduceLE, Int.reduceLT, Int.reduceEq, Int.reduceNeg, c1, h2, h4, c5, h6, h8, c9, h10, c12, h13, h15]
                have c16 : ansL X 11 [(.agg [(.str a0.Tag_Text), (.bool a0.Tag_Weak), (.int .i64 a0.Modified), (.int .i64 a0.Length), (.int .i64 a0.Have), (.int .i64 a0.Fresh), (.int .i64 a0.While), (.int .i64 a0.Error), (.sl (encL AV.str a0.Keys)), (.str a0.Tenant), (.bool a0.Keep)])] = Option.map AV.bool (meta_Joins.f a0) := meta_Joins.ok a0
                rcases h17 : meta_Joins.f a0 with _ | x18
                · simp only [D, DT, reduceIte, reduceCtorEq, Nat.reduceEqDiff, Nat.reduceAdd, Nat.reduceLT, Nat.reduceLeDiff, Nat.reduceBEq, Int.reduceLE, Int.reduceLT, Int.reduceEq, Int.reduceNeg, c1, h2, h4, c5, h6, h8, c9, h10, c12, h13, h15, c16, h17]
                · simp only [D, DT, reduceIte, reduceCtorEq, Nat.reduceEqDiff, Nat.reduceAdd, Nat.reduceLT, Nat.reduceLeDiff, Nat.reduceBEq, Int.reduceLE, Int.reduceLT, Int.reduceEq, Int.reduceNeg, c1, h2, h4, c5, h6, h8, c9, h10, c12, h13, h15, c16, h17]
                  have c19 : ansL X 12 [(.agg [(.str a0.Tag_Text), (.bool a0.Tag_Weak), (.int .i64 a0.Modified), (.int .i64 a0.Length), (.int .i64 a0.Have), (.int .i64 a0.Fresh), (.int .i64 a0.While), (.int .i64 a0.Error), (.sl (encL AV.str a0.Keys)), (.str a0.Tenant), (.bool a0.Keep)])] = Option.map AV.bool (mandolineref14_Joins.f a0) := mandolineref14_Joins.ok a0
                  rcases h20 : mandolineref14_Joins.f a0 with _ | x21
                  · simp only [D, DT, reduceIte, reduceCtorEq, Nat.reduceEqDiff, Nat.reduceAdd, Nat.reduceLT, Nat.reduceLeDiff, Nat.reduceBEq, Int.reduceLE, Int.reduceLT, Int.reduceEq, Int.reduceNeg, c1, h2, h4, c5, h6, h8, c9, h10, c12, h13, h15, c16, h17, c19, h20]
                  · simp only [D, DT, reduceIte, reduceCtorEq, Nat.reduceEqDiff, Nat.reduceAdd, Nat.reduceLT, Nat.reduceLeDiff, Nat.reduceBEq, Int.reduceLE, Int.reduceLT, Int.reduceEq, Int.reduceNeg, c1, h2, h4, c5, h6, h8, c9, h10, c12, h13, h15, c16, h17, c19, h20]
                    try rfl
noncomputable def mandolinelaw14_MetaChain.f (a0 : api_Meta) (a1 : api_Meta) (a2 : api_Meta) : Option Bool :=
  (mandolinelaw14_wakes.f).bind fun x3 =>
  bif x3 then
    (mandolineref14_Small.f a0).bind fun x7 =>
    bif x7 then
      (mandolineref14_Small.f a1).bind fun x11 =>
      bif x11 then
        (mandolineref14_Small.f a2).bind fun x15 =>
        bif x15 then
          (meta_Follows.f a0 a1).bind fun x19 =>
          bif x19 then
            (meta_Follows.f a1 a2).bind fun x33 =>
            bif x33 then
              (meta_Follows.f a0 a2).bind fun x47 =>
              bif x47 then
                (meta_Follows.f a0 a0).bind fun x51 =>
                (mandolineref14_Right.f a0).bind fun x54 =>
                bif x54 then
                  (mandolineref14_Joins.f a0).bind fun x58 =>
                  some (x51 == x58)
                else
                  some (!x51)
              else
                some false
            else
              (meta_Follows.f a0 a0).bind fun x37 =>
              (mandolineref14_Right.f a0).bind fun x40 =>
              bif x40 then
                (mandolineref14_Joins.f a0).bind fun x44 =>
                some (x37 == x44)
              else
                some (!x37)
          else
            (meta_Follows.f a0 a0).bind fun x23 =>
            (mandolineref14_Right.f a0).bind fun x26 =>
            bif x26 then
              (mandolineref14_Joins.f a0).bind fun x30 =>
              some (x23 == x30)
            else
              some (!x23)
        else
          some true
      else
        some true
    else
      some true
  else
    some false
set_option maxHeartbeats 4000000 in
theorem mandolinelaw14_MetaChain.ok (a0 : api_Meta) (a1 : api_Meta) (a2 : api_Meta) : ansL X 5 [(.agg [(.str a0.Tag_Text), (.bool a0.Tag_Weak), (.int .i64 a0.Modified), (.int .i64 a0.Length), (.int .i64 a0.Have), (.int .i64 a0.Fresh), (.int .i64 a0.While), (.int .i64 a0.Error), (.sl (encL AV.str a0.Keys)), (.str a0.Tenant), (.bool a0.Keep)]), (.agg [(.str a1.Tag_Text), (.bool a1.Tag_Weak), (.int .i64 a1.Modified), (.int .i64 a1.Length), (.int .i64 a1.Have), (.int .i64 a1.Fresh), (.int .i64 a1.While), (.int .i64 a1.Error), (.sl (encL AV.str a1.Keys)), (.str a1.Tenant), (.bool a1.Keep)]), (.agg [(.str a2.Tag_Text), (.bool a2.Tag_Weak), (.int .i64 a2.Modified), (.int .i64 a2.Length), (.int .i64 a2.Have), (.int .i64 a2.Fresh), (.int .i64 a2.While), (.int .i64 a2.Error), (.sl (encL AV.str a2.Keys)), (.str a2.Tenant), (.bool a2.Keep)])] = Option.map AV.bool (mandolinelaw14_MetaChain.f a0 a1 a2) := by
  rw [ansL_run (fd := c5) rfl rfl]
  simp only [D, DT, reduceIte, reduceCtorEq, Nat.reduceEqDiff, Nat.reduceAdd, Nat.reduceLT, Nat.reduceLeDiff, Nat.reduceBEq, Int.reduceLE, Int.reduceLT, Int.reduceEq, Int.reduceNeg, c5, mandolinelaw14_MetaChain.f]
  have c1 : ansL X 7 [] = Option.map AV.bool (mandolinelaw14_wakes.f) := mandolinelaw14_wakes.ok
  rcases h2 : mandolinelaw14_wakes.f with _ | x3
  · simp only [D, DT, reduceIte, reduceCtorEq, Nat.reduceEqDiff, Nat.reduceAdd, Nat.reduceLT, Nat.reduceLeDiff, Nat.reduceBEq, Int.reduceLE, Int.reduceLT, Int.reduceEq, Int.reduceNeg, c1, h2]
  · simp only [D, DT, reduceIte, reduceCtorEq, Nat.reduceEqDiff, Nat.reduceAdd, Nat.reduceLT, Nat.reduceLeDiff, Nat.reduceBEq, Int.reduceLE, Int.reduceLT, Int.reduceEq, Int.reduceNeg, c1, h2]
    cases h4 : x3
    · simp only [D, DT, reduceIte, reduceCtorEq, Nat.reduceEqDiff, Nat.reduceAdd, Nat.reduceLT, Nat.reduceLeDiff, Nat.reduceBEq, Int.reduceLE, Int.reduceLT, Int.reduceEq, Int.reduceNeg, c1, h2, h4]
      try rfl
    · simp only [D, DT, reduceIte, reduceCtorEq, Nat.reduceEqDiff, Nat.reduceAdd, Nat.reduceLT, Nat.reduceLeDiff, Nat.reduceBEq, Int.reduceLE, Int.reduceLT, Int.reduceEq, Int.reduceNeg, c1, h2, h4]
      have c5 : ansL X 8 [(.agg [(.str a0.Tag_Text), (.bool a0.Tag_Weak), (.int .i64 a0.Modified), (.int .i64 a0.Length), (.int .i64 a0.Have), (.int .i64 a0.Fresh), (.int .i64 a0.While), (.int .i64 a0.Error), (.sl (encL AV.str a0.Keys)), (.str a0.Tenant), (.bool a0.Keep)])] = Option.map AV.bool (mandolineref14_Small.f a0) := mandolineref14_Small.ok a0
      rcases h6 : mandolineref14_Small.f a0 with _ | x7
      · simp only [D, DT, reduceIte, reduceCtorEq, Nat.reduceEqDiff, Nat.reduceAdd, Nat.reduceLT, Nat.reduceLeDiff, Nat.reduceBEq, Int.reduceLE, Int.reduceLT, Int.reduceEq, Int.reduceNeg, c1, h2, h4, c5, h6]
      · simp only [D, DT, reduceIte, reduceCtorEq, Nat.reduceEqDiff, Nat.reduceAdd, Nat.reduceLT, Nat.reduceLeDiff, Nat.reduceBEq, Int.reduceLE, Int.reduceLT, Int.reduceEq, Int.reduceNeg, c1, h2, h4, c5, h6]
        cases h8 : x7
        · simp only [D, DT, reduceIte, reduceCtorEq, Nat.reduceEqDiff, Nat.reduceAdd, Nat.reduceLT, Nat.reduceLeDiff, Nat.reduceBEq, Int.reduceLE, Int.reduceLT, Int.reduceEq, Int.reduceNeg, c1, h2, h4, c5, h6, h8]
          try rfl
        · simp only [D, DT, reduceIte, reduceCtorEq, Nat.reduceEqDiff, Nat.reduceAdd, Nat.reduceLT, Nat.reduceLeDiff, Nat.reduceBEq, Int.reduceLE, Int.reduceLT, Int.reduceEq, Int.reduceNeg, c1, h2, h4, c5, h6, h8]
          have c9 : ansL X 8 [(.agg [(.str a1.Tag_Text), (.bool a1.Tag_Weak), (.int .i64 a1.Modified), (.int .i64 a1.Length), (.int .i64 a1.Have), (.int .i64 a1.Fresh), (.int .i64 a1.While), (.int .i64 a1.Error), (.sl (encL AV.str a1.Keys)), (.str a1.Tenant), (.bool a1.Keep)])] = Option.map AV.bool (mandolineref14_Small.f a1) := mandolineref14_Small.ok a1
          rcases h10 : mandolineref14_Small.f a1 with _ | x11
          · simp only [D, DT, reduceIte, reduceCtorEq, Nat.reduceEqDiff, Nat.reduceAdd, Nat.reduceLT, Nat.reduceLeDiff, Nat.reduceBEq, Int.reduceLE, Int.reduceLT, Int.reduceEq, Int.reduceNeg, c1, h2, h4, c5, h6, h8, c9, h10]
          · simp only [D, DT, reduceIte, reduceCtorEq, Nat.reduceEqDiff, Nat.reduceAdd, Nat.reduceLT, Nat.reduceLeDiff, Nat.reduceBEq, Int.reduceLE, Int.reduceLT, Int.reduceEq, Int.reduceNeg, c1, h2, h4, c5, h6, h8, c9, h10]
            cases h12 : x11
            · simp only [D, DT, reduceIte, reduceCtorEq, Nat.reduceEqDiff, Nat.reduceAdd, Nat.reduceLT, Nat.reduceLeDiff, Nat.reduceBEq, Int.reduceLE, Int.reduceLT, Int.reduceEq, Int.reduceNeg, c1, h2, h4, c5, h6, h8, c9, h10, h12]
              try rfl
            · simp only [D, DT, reduceIte, reduceCtorEq, Nat.reduceEqDiff, Nat.reduceAdd, Nat.reduceLT, Nat.reduceLeDiff, Nat.reduceBEq, Int.reduceLE, Int.reduceLT, Int.reduceEq, Int.reduceNeg, c1, h2, h4, c5, h6, h8, c9, h10, h12]
              have c13 : ansL X 8 [(.agg [(.str a2.Tag_Text), (.bool a2.Tag_Weak), (.int .i64 a2.Modified), (.int .i64 a2.Length), (.int .i64 a2.Have), (.int .i64 a2.Fresh), (.int .i64 a2.While), (.int .i64 a2.Error), (.sl (encL AV.str a2.Keys)), (.str a2.Tenant), (.bool a2.Keep)])] = Option.map AV.bool (mandolineref14_Small.f a2) := mandolineref14_Small.ok a2
              rcases h14 : mandolineref14_Small.f a2 with _ | x15
              · simp only [D, DT, reduceIte, reduceCtorEq, Nat.reduceEqDiff, Nat.reduceAdd, Nat.reduceLT, Nat.reduceLeDiff, Nat.reduceBEq, Int.reduceLE, Int.reduceLT, Int.reduceEq, Int.reduceNeg, c1, h2, h4, c5, h6, h8, c9, h10, h12, c13, h14]
              · simp only [D, DT, reduceIte, reduceCtorEq, Nat.reduceEqDiff, Nat.reduceAdd, Nat.reduceLT, Nat.reduceLeDiff, Nat.reduceBEq, Int.reduceLE, Int.reduceLT, Int.reduceEq, Int.reduceNeg, c1, h2, h4, c5, h6, h8, c9, h10, h12, c13, h14]
                cases h16 : x15
                · simp only [D, DT, reduceIte, reduceCtorEq, Nat.reduceEqDiff, Nat.reduceAdd, Nat.reduceLT, Nat.reduceLeDiff, Nat.reduceBEq, Int.reduceLE, Int.reduceLT, Int.reduceEq, Int.reduceNeg, c1, h2, h4, c5, h6, h8, c9, h10, h12, c13, h14, h16]
                  try rfl
                · simp only [D, DT, reduceIte, reduceCtorEq, Nat.reduceEqDiff, Nat.reduceAdd, Nat.reduceLT, Nat.reduceLeDiff, Nat.reduceBEq, Int.reduceLE, Int.reduceLT, Int.reduceEq, Int.reduceNeg, c1, h2, h4, c5, h6, h8, c9, h10, h12, c13, h14, h16]
                  have c17 : ansL X 16 [(.agg [(.str a0.Tag_Text), (.bool a0.Tag_Weak), (.int .i64 a0.Modified), (.int .i64 a0.Length), (.int .i64 a0.Have), (.int .i64 a0.Fresh), (.int .i64 a0.While), (.int .i64 a0.Error), (.sl (encL AV.str a0.Keys)), (.str a0.Tenant), (.bool a0.Keep)]), (.agg [(.str a1.Tag_Text), (.bool a1.Tag_Weak), (.int .i64 a1.Modified), (.int .i64 a1.Length), (.int .i64 a1.Have), (.int .i64 a1.Fresh), (.int .i64 a1.While), (.int .i64 a1.Error), (.sl (encL AV.str a1.Keys)), (.str a1.Tenant), (.bool a1.Keep)])] = Option.map AV.bool (meta_Follows.f a0 a1) := meta_Follows.ok a0 a1
                  rcases h18 : meta_Follows.f a0 a1 with _ | x19
                  · simp only [D, DT, reduceIte, reduceCtorEq, Nat.reduceEqDiff, Nat.reduceAdd, Nat.reduceLT, Nat.reduceLeDiff, Nat.reduceBEq, Int.reduceLE, Int.reduceLT, Int.reduceEq, Int.reduceNeg, c1, h2, h4, c5, h6, h8, c9, h10, h12, c13, h14, h16, c17, h18]
                  · simp only [D, DT, reduceIte, reduceCtorEq, Nat.reduceEqDiff, Nat.reduceAdd, Nat.reduceLT, Nat.reduceLeDiff, Nat.reduceBEq, Int.reduceLE, Int.reduceLT, Int.reduceEq, Int.reduceNeg, c1, h2, h4, c5, h6, h8, c9, h10, h12, c13, h14, h16, c17, h18]
                    cases h20 : x19
                    · simp only [D, DT, reduceIte, reduceCtorEq, Nat.reduceEqDiff, Nat.reduceAdd, Nat.reduceLT, Nat.reduceLeDiff, Nat.reduceBEq, Int.reduceLE, Int.reduceLT, Int.reduceEq, Int.reduceNeg, c1, h2, h4, c5, h6, h8, c9, h10, h12, c13, h14, h16, c17, h18, h20]
                      have c21 : ansL X 16 [(.agg [(.str a0.Tag_Text), (.bool a0.Tag_Weak), (.int .i64 a0.Modified), (.int .i64 a0.Length), (.int .i64 a0.Have), (.int .i64 a0.Fresh), (.int .i64 a0.While), (.int .i64 a0.Error), (.sl (encL AV.str a0.Keys)), (.str a0.Tenant), (.bool a0.Keep)]), (.agg [(.str a0.Tag_Text), (.bool a0.Tag_Weak), (.int .i64 a0.Modified), (.int .i64 a0.Length), (.int .i64 a0.Have), (.int .i64 a0.Fresh), (.int .i64 a0.While), (.int .i64 a0.Error), (.sl (encL AV.str a0.Keys)), (.str a0.Tenant), (.bool a0.Keep)])] = Option.map AV.bool (meta_Follows.f a0 a0) := meta_Follows.ok a0 a0
                      rcases h22 : meta_Follows.f a0 a0 with _ | x23
                      · simp only [D, DT, reduceIte, reduceCtorEq, Nat.reduceEqDiff, Nat.reduceAdd, Nat.reduceLT, Nat.reduceLeDiff, Nat.reduceBEq, Int.reduceLE, Int.reduceLT, Int.reduceEq, Int.reduceNeg, c1, h2, h4, c5, h6, h8, c9, h10, h12, c13, h14, h16, c17, h18, h20, c21, h22]
                      · simp only [D, DT, reduceIte, reduceCtorEq, Nat.reduceEqDiff, Nat.reduceAdd, Nat.reduceLT, Nat.reduceLeDiff, Nat.reduceBEq, Int.reduceLE, Int.reduceLT, Int.reduceEq, Int.reduceNeg, c1, h2, h4, c5, h6, h8, c9, h10, h12, c13, h14, h16, c17, h18, h20, c21, h22]
                        have c24 : ansL X 10 [(.agg [(.str a0.Tag_Text), (.bool a0.Tag_Weak), (.int .i64 a0.Modified), (.int .i64 a0.Length), (.int .i64 a0.Have), (.int .i64 a0.Fresh), (.int .i64 a0.While), (.int .i64 a0.Error), (.sl (encL AV.str a0.Keys)), (.str a0.Tenant), (.bool a0.Keep)])] = Option.map AV.bool (mandolineref14_Right.f a0) := mandolineref14_Right.ok a0
                        rcases h25 : mandolineref14_Right.f a0 with _ | x26
                        · simp only [D, DT, reduceIte, reduceCtorEq, Nat.reduceEqDiff, Nat.reduceAdd, Nat.reduceLT, Nat.reduceLeDiff, Nat.reduceBEq, Int.reduceLE, Int.reduceLT, Int.reduceEq, Int.reduceNeg, c1, h2, h4, c5, h6, h8, c9, h10, h12, c13, h14, h16, c17, h18, h20, c21, h22, c24, h25]
                        · simp only [D, DT, reduceIte, reduceCtorEq, Nat.reduceEqDiff, Nat.reduceAdd, Nat.reduceLT, Nat.reduceLeDiff, Nat.reduceBEq, Int.reduceLE, Int.reduceLT, Int.reduceEq, Int.reduceNeg, c1, h2, h4, c5, h6, h8, c9, h10, h12, c13, h14, h16, c17, h18, h20, c21, h22, c24, h25]
                          cases h27 : x26
                          · simp only [D, DT, reduceIte, reduceCtorEq, Nat.reduceEqDiff, Nat.reduceAdd, Nat.reduceLT, Nat.reduceLeDiff, Nat.reduceBEq, Int.reduceLE, Int.reduceLT, Int.reduceEq, Int.reduceNeg, c1, h2, h4, c5, h6, h8, c9, h10, h12, c13, h14, h16, c17, h18, h20, c21, h22, c24, h25, h27]
                            try rfl
                          · simp only [D, DT, reduceIte, reduceCtorEq, Nat.reduceEqDiff, Nat.reduceAdd, Nat.reduceLT, Nat.reduceLeDiff, Nat.reduceBEq, Int.reduceLE, Int.reduceLT, Int.reduceEq, Int.reduceNeg, c1, h2, h4, c5, h6, h8, c9, h10, h12, c13, h14, h16, c17, h18, h20, c21, h22, c24, h25, h27]
                            have c28 : ansL X 12 [(.agg [(.str a0.Tag_Text), (.bool a0.Tag_Weak), (.int .i64 a0.Modified), (.int .i64 a0.Length), (.int .i64 a0.Have), (.int .i64 a0.Fresh), (.int .i64 a0.While), (.int .i64 a0.Error), (.sl (encL AV.str a0.Keys)), (.str a0.Tenant), (.bool a0.Keep)])] = Option.map AV.bool (mandolineref14_Joins.f a0) := mandolineref14_Joins.ok a0
                            rcases h29 : mandolineref14_Joins.f a0 with _ | x30
                            · simp only [D, DT, reduceIte, reduceCtorEq, Nat.reduceEqDiff, Nat.reduceAdd, Nat.reduceLT, Nat.reduceLeDiff, Nat.reduceBEq, Int.reduceLE, Int.reduceLT, Int.reduceEq, Int.reduceNeg, c1, h2, h4, c5, h6, h8, c9, h10, h12, c13, h14, h16, c17, h18, h20, c21, h22, c24, h25, h27, c28, h29]
                            · simp only [D, DT, reduceIte, reduceCtorEq, Nat.reduceEqDiff, Nat.reduceAdd, Nat.reduceLT, Nat.reduceLeDiff, Nat.reduceBEq, Int.reduceLE, Int.reduceLT, Int.reduceEq, Int.reduceNeg, c1, h2, h4, c5, h6, h8, c9, h10, h12, c13, h14, h16, c17, h18, h20, c21, h22, c24, h25, h27, c28, h29]
                              try rfl
                    · simp only [D, DT, reduceIte, reduceCtorEq, Nat.reduceEqDiff, Nat.reduceAdd, Nat.reduceLT, Nat.reduceLeDiff, Nat.reduceBEq, Int.reduceLE, Int.reduceLT, Int.reduceEq, Int.reduceNeg, c1, h2, h4, c5, h6, h8, c9, h10, h12, c13, h14, h16, c17, h18, h20]
                      have c31 : ansL X 16 [(.agg [(.str a1.Tag_Text), (.bool a1.Tag_Weak), (.int .i64 a1.Modified), (.int .i64 a1.Length), (.int .i64 a1.Have), (.int .i64 a1.Fresh), (.int .i64 a1.While), (.int .i64 a1.Error), (.sl (encL AV.str a1.Keys)), (.str a1.Tenant), (.bool a1.Keep)]), (.agg [(.str a2.Tag_Text), (.bool a2.Tag_Weak), (.int .i64 a2.Modified), (.int .i64 a2.Length), (.int .i64 a2.Have), (.int .i64 a2.Fresh), (.int .i64 a2.While), (.int .i64 a2.Error), (.sl (encL AV.str a2.Keys)), (.str a2.Tenant), (.bool a2.Keep)])] = Option.map AV.bool (meta_Follows.f a1 a2) := meta_Follows.ok a1 a2
                      rcases h32 : meta_Follows.f a1 a2 with _ | x33
                      · simp only [D, DT, reduceIte, reduceCtorEq, Nat.reduceEqDiff, Nat.reduceAdd, Nat.reduceLT, Nat.reduceLeDiff, Nat.reduceBEq, Int.reduceLE, Int.reduceLT, Int.reduceEq, Int.reduceNeg, c1, h2, h4, c5, h6, h8, c9, h10, h12, c13, h14, h16, c17, h18, h20, c31, h32]
                      · simp only [D, DT, reduceIte, reduceCtorEq, Nat.reduceEqDiff, Nat.reduceAdd, Nat.reduceLT, Nat.reduceLeDiff, Nat.reduceBEq, Int.reduceLE, Int.reduceLT, Int.reduceEq, Int.reduceNeg, c1, h2, h4, c5, h6, h8, c9, h10, h12, c13, h14, h16, c17, h18, h20, c31, h32]
                        cases h34 : x33
                        · simp only [D, DT, reduceIte, reduceCtorEq, Nat.reduceEqDiff, Nat.reduceAdd, Nat.reduceLT, Nat.reduceLeDiff, Nat.reduceBEq, Int.reduceLE, Int.reduceLT, Int.reduceEq, Int.reduceNeg, c1, h2, h4, c5, h6, h8, c9, h10, h12, c13, h14, h16, c17, h18, h20, c31, h32, h34]
                          have c35 : ansL X 16 [(.agg [(.str a0.Tag_Text), (.bool a0.Tag_Weak), (.int .i64 a0.Modified), (.int .i64 a0.Length), (.int .i64 a0.Have), (.int .i64 a0.Fresh), (.int .i64 a0.While), (.int .i64 a0.Error), (.sl (encL AV.str a0.Keys)), (.str a0.Tenant), (.bool a0.Keep)]), (.agg [(.str a0.Tag_Text), (.bool a0.Tag_Weak), (.int .i64 a0.Modified), (.int .i64 a0.Length), (.int .i64 a0.Have), (.int .i64 a0.Fresh), (.int .i64 a0.While), (.int .i64 a0.Error), (.sl (encL AV.str a0.Keys)), (.str a0.Tenant), (.bool a0.Keep)])] = Option.map AV.bool (meta_Follows.f a0 a0) := meta_Follows.ok a0 a0
                          rcases h36 : meta_Follows.f a0 a0 with _ | x37
                          · simp only [D, DT, reduceIte, reduceCtorEq, Nat.reduceEqDiff, Nat.reduceAdd, Nat.reduceLT, Nat.reduceLeDiff, Nat.reduceBEq, Int.reduceLE, Int.reduceLT, Int.reduceEq, Int.reduceNeg, c1, h2, h4, c5, h6, h8, c9, h10, h12, c13, h14, h16, c17, h18, h20, c31, h32, h34, c35, h36]
                          · simp only [D, DT, reduceIte, reduceCtorEq, Nat.reduceEqDiff, Nat.reduceAdd, Nat.reduceLT, Nat.reduceLeDiff, Nat.reduceBEq, Int.reduceLE, Int.reduceLT, Int.reduceEq, Int.reduceNeg, c1, h2, h4, c5, h6, h8, c9, h10, h12, c13, h14, h16, c17, h18, h20, c31, h32, h34, c35, h36]
                            have c38 : ansL X 10 [(.agg [(.str a0.Tag_Text), (.bool a0.Tag_Weak), (.int .i64 a0.Modified), (.int .i64 a0.Length), (.int .i64 a0.Have), (.int .i64 a0.Fresh), (.int .i64 a0.While), (.int .i64 a0.Error), (.sl (encL AV.str a0.Keys)), (.str a0.Tenant), (.bool a0.Keep)])] = Option.map AV.bool (mandolineref14_Right.f a0) := mandolineref14_Right.ok a0
                            rcases h39 : mandolineref14_Right.f a0 with _ | x40
                            · simp only [D, DT, reduceIte, reduceCtorEq, Nat.reduceEqDiff, Nat.reduceAdd, Nat.reduceLT, Nat.reduceLeDiff, Nat.reduceBEq, Int.reduceLE, Int.reduceLT, Int.reduceEq, Int.reduceNeg, c1, h2, h4, c5, h6, h8, c9, h10, h12, c13, h14, h16, c17, h18, h20, c31, h32, h34, c35, h36, c38, h39]
                            · simp only [D, DT, reduceIte, reduceCtorEq, Nat.reduceEqDiff, Nat.reduceAdd, Nat.reduceLT, Nat.reduceLeDiff, Nat.reduceBEq, Int.reduceLE, Int.reduceLT, Int.reduceEq, Int.reduceNeg, c1, h2, h4, c5, h6, h8, c9, h10, h12, c13, h14, h16, c17, h18, h20, c31, h32, h34, c35, h36, c38, h39]
                              cases h41 : x40
                              · simp only [D, DT, reduceIte, reduceCtorEq, Nat.reduceEqDiff, Nat.reduceAdd, Nat.reduceLT, Nat.reduceLeDiff, Nat.reduceBEq, Int.reduceLE, Int.reduceLT, Int.reduceEq, Int.reduceNeg, c1, h2, h4, c5, h6, h8, c9, h10, h12, c13, h14, h16, c17, h18, h20, c31, h32, h34, c35, h36, c38, h39, h41]
                                try rfl
                              · simp only [D, DT, reduceIte, reduceCtorEq, Nat.reduceEqDiff, Nat.reduceAdd, Nat.reduceLT, Nat.reduceLeDiff, Nat.reduceBEq, Int.reduceLE, Int.reduceLT, Int.reduceEq, Int.reduceNeg, c1, h2, h4, c5, h6, h8, c9, h10, h12, c13, h14, h16, c17, h18, h20, c31, h32, h34, c35, h36, c38, h39, h41]
                                have c42 : ansL X 12 [(.agg [(.str a0.Tag_Text), (.bool a0.Tag_Weak), (.int .i64 a0.Modified), (.int .i64 a0.Length), (.int .i64 a0.Have), (.int .i64 a0.Fresh), (.int .i64 a0.While), (.int .i64 a0.Error), (.sl (encL AV.str a0.Keys)), (.str a0.Tenant), (.bool a0.Keep)])] = Option.map AV.bool (mandolineref14_Joins.f a0) := mandolineref14_Joins.ok a0
                                rcases h43 : mandolineref14_Joins.f a0 with _ | x44
                                · simp only [D, DT, reduceIte, reduceCtorEq, Nat.reduceEqDiff, Nat.reduceAdd, Nat.reduceLT, Nat.reduceLeDiff, Nat.reduceBEq, Int.reduceLE, Int.reduceLT, Int.reduceEq, Int.reduceNeg, c1, h2, h4, c5, h6, h8, c9, h10, h12, c13, h14, h16, c17, h18, h20, c31, h32, h34, c35, h36, c38, h39, h41, c42, h43]
                                · simp only [D, DT, reduceIte, reduceCtorEq, Nat.reduceEqDiff, Nat.reduceAdd, Nat.reduceLT, Nat.reduceLeDiff, Nat.reduceBEq, Int.reduceLE, Int.reduceLT, Int.reduceEq, Int.reduceNeg, c1, h2, h4, c5, h6, h8, c9, h10, h12, c13, h14, h16, c17, h18, h20, c31, h32, h34, c35, h36, c38, h39, h41, c42, h43]
                                  try rfl
                        · simp only [D, DT, reduceIte, reduceCtorEq, Nat.reduceEqDiff, Nat.reduceAdd, Nat.reduceLT, Nat.reduceLeDiff, Nat.reduceBEq, Int.reduceLE, Int.reduceLT, Int.reduceEq, Int.reduceNeg, c1, h2, h4, c5, h6, h8, c9, h10, h12, c13, h14, h16, c17, h18, h20, c31, h32, h34]
                          have c45 : ansL X 16 [(.agg [(.str a0.Tag_Text), (.bool a0.Tag_Weak), (.int .i64 a0.Modified), (.int .i64 a0.Length), (.int .i64 a0.Have), (.int .i64 a0.Fresh), (.int .i64 a0.While), (.int .i64 a0.Error), (.sl (encL AV.str a0.Keys)), (.str a0.Tenant), (.bool a0.Keep)]), (.agg [(.str a2.Tag_Text), (.bool a2.Tag_Weak), (.int .i64 a2.Modified), (.int .i64 a2.Length), (.int .i64 a2.Have), (.int .i64 a2.Fresh), (.int .i64 a2.While), (.int .i64 a2.Error), (.sl (encL AV.str a2.Keys)), (.str a2.Tenant), (.bool a2.Keep)])] = Option.map AV.bool (meta_Follows.f a0 a2) := meta_Follows.ok a0 a2
                          rcases h46 : meta_Follows.f a0 a2 with _ | x47
                          · simp only [D, DT, reduceIte, reduceCtorEq, Nat.reduceEqDiff, Nat.reduceAdd, Nat.reduceLT, Nat.reduceLeDiff, Nat.reduceBEq, Int.reduceLE, Int.reduceLT, Int.reduceEq, Int.reduceNeg, c1, h2, h4, c5, h6, h8, c9, h10, h12, c13, h14, h16, c17, h18, h20, c31, h32, h34, c45, h46]
                          · simp only [D, DT, reduceIte, reduceCtorEq, Nat.reduceEqDiff, Nat.reduceAdd, Nat.reduceLT, Nat.reduceLeDiff, Nat.reduceBEq, Int.reduceLE, Int.reduceLT, Int.reduceEq, Int.reduceNeg, c1, h2, h4, c5, h6, h8, c9, h10, h12, c13, h14, h16, c17, h18, h20, c31, h32, h34, c45, h46]
                            cases h48 : x47
                            · simp only [D, DT, reduceIte, reduceCtorEq, Nat.reduceEqDiff, Nat.reduceAdd, Nat.reduceLT, Nat.reduceLeDiff, Nat.reduceBEq, Int.reduceLE, Int.reduceLT, Int.reduceEq, Int.reduceNeg, c1, h2, h4, c5, h6, h8, c9, h10, h12, c13, h14, h16, c17, h18, h20, c31, h32, h34, c45, h46, h48]
                              try rfl
                            · simp only [D, DT, reduceIte, reduceCtorEq, Nat.reduceEqDiff, Nat.reduceAdd, Nat.reduceLT, Nat.reduceLeDiff, Nat.reduceBEq, Int.reduceLE, Int.reduceLT, Int.reduceEq, Int.reduceNeg, c1, h2, h4, c5, h6, h8, c9, h10, h12, c13, h14, h16, c17, h18, h20, c31, h32, h34, c45, h46, h48]
                              have c49 : ansL X 16 [(.agg [(.str a0.Tag_Text), (.bool a0.Tag_Weak), (.int .i64 a0.Modified), (.int .i64 a0.Length), (.int .i64 a0.Have), (.int .i64 a0.Fresh), (.int .i64 a0.While), (.int .i64 a0.Error), (.sl (encL AV.str a0.Keys)), (.str a0.Tenant), (.bool a0.Keep)]), (.agg [(.str a0.Tag_Text), (.bool a0.Tag_Weak), (.int .i64 a0.Modified), (.int .i64 a0.Length), (.int .i64 a0.Have), (.int .i64 a0.Fresh), (.int .i64 a0.While), (.int .i64 a0.Error), (.sl (encL AV.str a0.Keys)), (.str a0.Tenant), (.bool a0.Keep)])] = Option.map AV.bool (meta_Follows.f a0 a0) := meta_Follows.ok a0 a0
                              rcases h50 : meta_Follows.f a0 a0 with _ | x51
                              · simp only [D, DT, reduceIte, reduceCtorEq, Nat.reduceEqDiff, Nat.reduceAdd, Nat.reduceLT, Nat.reduceLeDiff, Nat.reduceBEq, Int.reduceLE, Int.reduceLT, Int.reduceEq, Int.reduceNeg, c1, h2, h4, c5, h6, h8, c9, h10, h12, c13, h14, h16, c17, h18, h20, c31, h32, h34, c45, h46, h48, c49, h50]
                              · simp only [D, DT, reduceIte, reduceCtorEq, Nat.reduceEqDiff, Nat.reduceAdd, Nat.reduceLT, Nat.reduceLeDiff, Nat.reduceBEq, Int.reduceLE, Int.reduceLT, Int.reduceEq, Int.reduceNeg, c1, h2, h4, c5, h6, h8, c9, h10, h12, c13, h14, h16, c17, h18, h20, c31, h32, h34, c45, h46, h48, c49, h50]
                                have c52 : ansL X 10 [(.agg [(.str a0.Tag_Text), (.bool a0.Tag_Weak), (.int .i64 a0.Modified), (.int .i64 a0.Length), (.int .i64 a0.Have), (.int .i64 a0.Fresh), (.int .i64 a0.While), (.int .i64 a0.Error), (.sl (encL AV.str a0.Keys)), (.str a0.Tenant), (.bool a0.Keep)])] = Option.map AV.bool (mandolineref14_Right.f a0) := mandolineref14_Right.ok a0
                                rcases h53 : mandolineref14_Right.f a0 with _ | x54
                                · simp only [D, DT, reduceIte, reduceCtorEq, Nat.reduceEqDiff, Nat.reduceAdd, Nat.reduceLT, Nat.reduceLeDiff, Nat.reduceBEq, Int.reduceLE, Int.reduceLT, Int.reduceEq, Int.reduceNeg, c1, h2, h4, c5, h6, h8, c9, h10, h12, c13, h14, h16, c17, h18, h20, c31, h32, h34, c45, h46, h48, c49, h50, c52, h53]
                                · simp only [D, DT, reduceIte, reduceCtorEq, Nat.reduceEqDiff, Nat.reduceAdd, Nat.reduceLT, Nat.reduceLeDiff, Nat.reduceBEq, Int.reduceLE, Int.reduceLT, Int.reduceEq, Int.reduceNeg, c1, h2, h4, c5, h6, h8, c9, h10, h12, c13, h14, h16, c17, h18, h20, c31, h32, h34, c45, h46, h48, c49, h50, c52, h53]
                                  cases h55 : x54
                                  · simp only [D, DT, reduceIte, reduceCtorEq, Nat.reduceEqDiff, Nat.reduceAdd, Nat.reduceLT, Nat.reduceLeDiff, Nat.reduceBEq, Int.reduceLE, Int.reduceLT, Int.reduceEq, Int.reduceNeg, c1, h2, h4, c5, h6, h8, c9, h10, h12, c13, h14, h16, c17, h18, h20, c31, h32, h34, c45, h46, h48, c49, h50, c52, h53, h55]
                                    try rfl
                                  · simp only [D, DT, reduceIte, reduceCtorEq, Nat.reduceEqDiff, Nat.reduceAdd, Nat.reduceLT, Nat.reduceLeDiff, Nat.reduceBEq, Int.reduceLE, Int.reduceLT, Int.reduceEq, Int.reduceNeg, c1, h2, h4, c5, h6, h8, c9, h10, h12, c13, h14, h16, c17, h18, h20, c31, h32, h34, c45, h46, h48, c49, h50, c52, h53, h55]
                                    have c56 : ansL X 12 [(.agg [(.str a0.Tag_Text), (.bool a0.Tag_Weak), (.int .i64 a0.Modified), (.int .i64 a0.Length), (.int .i64 a0.Have), (.int .i64 a0.Fresh), (.int .i64 a0.While), (.int .i64 a0.Error), (.sl (encL AV.str a0.Keys)), (.str a0.Tenant), (.bool a0.Keep)])] = Option.map AV.bool (mandolineref14_Joins.f a0) := mandolineref14_Joins.ok a0
                                    rcases h57 : mandolineref14_Joins.f a0 with _ | x58
                                    · simp only [D, DT, reduceIte, reduceCtorEq, Nat.reduceEqDiff, Nat.reduceAdd, Nat.reduceLT, Nat.reduceLeDiff, Nat.reduceBEq, Int.reduceLE, Int.reduceLT, Int.reduceEq, Int.reduceNeg, c1, h2, h4, c5, h6, h8, c9, h10, h12, c13, h14, h16, c17, h18, h20, c31, h32, h34, c45, h46, h48, c49, h50, c52, h53, h55, c56, h57]
                                    · simp only [D, DT, reduceIte, reduceCtorEq, Nat.reduceEqDiff, Nat.reduceAdd, Nat.reduceLT, Nat.reduceLeDiff, Nat.reduceBEq, Int.reduceLE, Int.reduceLT, Int.reduceEq, Int.reduceNeg, c1, h2, h4, c5, h6, h8, c9, h10, h12, c13, h14, h16, c17, h18, h20, c31, h32, h34, c45, h46, h48, c49, h50, c52, h53, h55, c56, h57]
                                      try rfl
noncomputable def mandolinelaw14_MetaFollows.f (a0 : api_Meta) (a1 : api_Meta) : Option Bool :=
  (mandolinelaw14_wakes.f).bind fun x3 =>
  bif x3 then
    (mandolineref14_Small.f a0).bind fun x7 =>
    bif x7 then
      (mandolineref14_Small.f a1).bind fun x11 =>
      bif x11 then
        (meta_Follows.f a0 a1).bind fun x15 =>
        (mandolineref14_Follows.f a0 a1).bind fun x18 =>
        bif (x15 == x18) then
          (meta_Same.f a0 a1).bind fun x22 =>
          (mandolineref14_Same.f a0 a1).bind fun x25 =>
          some (x22 == x25)
        else
          some false
      else
        some true
    else
      some true
  else
    some false
set_option maxHeartbeats 4000000 in
theorem mandolinelaw14_MetaFollows.ok (a0 : api_Meta) (a1 : api_Meta) : ansL X 6 [(.agg [(.str a0.Tag_Text), (.bool a0.Tag_Weak), (.int .i64 a0.Modified), (.int .i64 a0.Length), (.int .i64 a0.Have), (.int .i64 a0.Fresh), (.int .i64 a0.While), (.int .i64 a0.Error), (.sl (encL AV.str a0.Keys)), (.str a0.Tenant), (.bool a0.Keep)]), (.agg [(.str a1.Tag_Text), (.bool a1.Tag_Weak), (.int .i64 a1.Modified), (.int .i64 a1.Length), (.int .i64 a1.Have), (.int .i64 a1.Fresh), (.int .i64 a1.While), (.int .i64 a1.Error), (.sl (encL AV.str a1.Keys)), (.str a1.Tenant), (.bool a1.Keep)])] = Option.map AV.bool (mandolinelaw14_MetaFollows.f a0 a1) := by
  rw [ansL_run (fd := c6) rfl rfl]
  simp only [D, DT, reduceIte, reduceCtorEq, Nat.reduceEqDiff, Nat.reduceAdd, Nat.reduceLT, Nat.reduceLeDiff, Nat.reduceBEq, Int.reduceLE, Int.reduceLT, Int.reduceEq, Int.reduceNeg, c6, mandolinelaw14_MetaFollows.f]
  have c1 : ansL X 7 [] = Option.map AV.bool (mandolinelaw14_wakes.f) := mandolinelaw14_wakes.ok
  rcases h2 : mandolinelaw14_wakes.f with _ | x3
  · simp only [D, DT, reduceIte, reduceCtorEq, Nat.reduceEqDiff, Nat.reduceAdd, Nat.reduceLT, Nat.reduceLeDiff, Nat.reduceBEq, Int.reduceLE, Int.reduceLT, Int.reduceEq, Int.reduceNeg, c1, h2]
  · simp only [D, DT, reduceIte, reduceCtorEq, Nat.reduceEqDiff, Nat.reduceAdd, Nat.reduceLT, Nat.reduceLeDiff, Nat.reduceBEq, Int.reduceLE, Int.reduceLT, Int.reduceEq, Int.reduceNeg, c1, h2]
    cases h4 : x3
    · simp only [D, DT, reduceIte, reduceCtorEq, Nat.reduceEqDiff, Nat.reduceAdd, Nat.reduceLT, Nat.reduceLeDiff, Nat.reduceBEq, Int.reduceLE, Int.reduceLT, Int.reduceEq, Int.reduceNeg, c1, h2, h4]
      try rfl
    · simp only [D, DT, reduceIte, reduceCtorEq, Nat.reduceEqDiff, Nat.reduceAdd, Nat.reduceLT, Nat.reduceLeDiff, Nat.reduceBEq, Int.reduceLE, Int.reduceLT, Int.reduceEq, Int.reduceNeg, c1, h2, h4]
      have c5 : ansL X 8 [(.agg [(.str a0.Tag_Text), (.bool a0.Tag_Weak), (.int .i64 a0.Modified), (.int .i64 a0.Length), (.int .i64 a0.Have), (.int .i64 a0.Fresh), (.int .i64 a0.While), (.int .i64 a0.Error), (.sl (encL AV.str a0.Keys)), (.str a0.Tenant), (.bool a0.Keep)])] = Option.map AV.bool (mandolineref14_Small.f a0) := mandolineref14_Small.ok a0
      rcases h6 : mandolineref14_Small.f a0 with _ | x7
      · simp only [D, DT, reduceIte, reduceCtorEq, Nat.reduceEqDiff, Nat.reduceAdd, Nat.reduceLT, Nat.reduceLeDiff, Nat.reduceBEq, Int.reduceLE, Int.reduceLT, Int.reduceEq, Int.reduceNeg, c1, h2, h4, c5, h6]
      · simp only [D, DT, reduceIte, reduceCtorEq, Nat.reduceEqDiff, Nat.reduceAdd, Nat.reduceLT, Nat.reduceLeDiff, Nat.reduceBEq, Int.reduceLE, Int.reduceLT, Int.reduceEq, Int.reduceNeg, c1, h2, h4, c5, h6]
        cases h8 : x7
        · simp only [D, DT, reduceIte, reduceCtorEq, Nat.reduceEqDiff, Nat.reduceAdd, Nat.reduceLT, Nat.reduceLeDiff, Nat.reduceBEq, Int.reduceLE, Int.reduceLT, Int.reduceEq, Int.reduceNeg, c1, h2, h4, c5, h6, h8]
          try rfl
        · simp only [D, DT, reduceIte, reduceCtorEq, Nat.reduceEqDiff, Nat.reduceAdd, Nat.reduceLT, Nat.reduceLeDiff, Nat.reduceBEq, Int.reduceLE, Int.reduceLT, Int.reduceEq, Int.reduceNeg, c1, h2, h4, c5, h6, h8]
          have c9 : ansL X 8 [(.agg [(.str a1.Tag_Text), (.bool a1.Tag_Weak), (.int .i64 a1.Modified), (.int .i64 a1.Length), (.int .i64 a1.Have), (.int .i64 a1.Fresh), (.int .i64 a1.While), (.int .i64 a1.Error), (.sl (encL AV.str a1.Keys)), (.str a1.Tenant), (.bool a1.Keep)])] = Option.map AV.bool (mandolineref14_Small.f a1) := mandolineref14_Small.ok a1
          rcases h10 : mandolineref14_Small.f a1 with _ | x11
          · simp only [D, DT, reduceIte, reduceCtorEq, Nat.reduceEqDiff, Nat.reduceAdd, Nat.reduceLT, Nat.reduceLeDiff, Nat.reduceBEq, Int.reduceLE, Int.reduceLT, Int.reduceEq, Int.reduceNeg, c1, h2, h4, c5, h6, h8, c9, h10]
          · simp only [D, DT, reduceIte, reduceCtorEq, Nat.reduceEqDiff, Nat.reduceAdd, Nat.reduceLT, Nat.reduceLeDiff, Nat.reduceBEq, Int.reduceLE, Int.reduceLT, Int.reduceEq, Int.reduceNeg, c1, h2, h4, c5, h6, h8, c9, h10]
            cases h12 : x11
            · simp only [D, DT, reduceIte, reduceCtorEq, Nat.reduceEqDiff, Nat.reduceAdd, Nat.reduceLT, Nat.reduceLeDiff, Nat.reduceBEq, Int.reduceLE, Int.reduceLT, Int.reduceEq, Int.reduceNeg, c1, h2, h4, c5, h6, h8, c9, h10, h12]
              try rfl
            · simp only [D, DT, reduceIte, reduceCtorEq, Nat.reduceEqDiff, Nat.reduceAdd, Nat.reduceLT, Nat.reduceLeDiff, Nat.reduceBEq, Int.reduceLE, Int.reduceLT, Int.reduceEq, Int.reduceNeg, c1, h2, h4, c5, h6, h8, c9, h10, h12]
              have c13 : ansL X 16 [(.agg [(.str a0.Tag_Text), (.bool a0.Tag_Weak), (.int .i64 a0.Modified), (.int .i64 a0.Length), (.int .i64 a0.Have), (.int .i64 a0.Fresh), (.int .i64 a0.While), (.int .i64 a0.Error), (.sl (encL AV.str a0.Keys)), (.str a0.Tenant), (.bool a0.Keep)]), (.agg [(.str a1.Tag_Text), (.bool a1.Tag_Weak), (.int .i64 a1.Modified), (.int .i64 a1.Length), (.int .i64 a1.Have), (.int .i64 a1.Fresh), (.int .i64 a1.While), (.int .i64 a1.Error), (.sl (encL AV.str a1.Keys)), (.str a1.Tenant), (.bool a1.Keep)])] = Option.map AV.bool (meta_Follows.f a0 a1) := meta_Follows.ok a0 a1
              rcases h14 : meta_Follows.f a0 a1 with _ | x15
              · simp only [D, DT, reduceIte, reduceCtorEq, Nat.reduceEqDiff, Nat.reduceAdd, Nat.reduceLT, Nat.reduceLeDiff, Nat.reduceBEq, Int.reduceLE, Int.reduceLT, Int.reduceEq, Int.reduceNeg, c1, h2, h4, c5, h6, h8, c9, h10, h12, c13, h14]
              · simp only [D, DT, reduceIte, reduceCtorEq, Nat.reduceEqDiff, Nat.reduceAdd, Nat.reduceLT, Nat.reduceLeDiff, Nat.reduceBEq, Int.reduceLE, Int.reduceLT, Int.reduceEq, Int.reduceNeg, c1, h2, h4, c5, h6, h8, c9, h10, h12, c13, h14]
                have c16 : ansL X 17 [(.agg [(.str a0.Tag_Text), (.bool a0.Tag_Weak), (.int .i64 a0.Modified), (.int .i64 a0.Length), (.int .i64 a0.Have), (.int .i64 a0.Fresh), (.int .i64 a0.While), (.int .i64 a0.Error), (.sl (encL AV.str a0.Keys)), (.str a0.Tenant), (.bool a0.Keep)]), (.agg [(.str a1.Tag_Text), (.bool a1.Tag_Weak), (.int .i64 a1.Modified), (.int .i64 a1.Length), (.int .i64 a1.Have), (.int .i64 a1.Fresh), (.int .i64 a1.While), (.int .i64 a1.Error), (.sl (encL AV.str a1.Keys)), (.str a1.Tenant), (.bool a1.Keep)])] = Option.map AV.bool (mandolineref14_Follows.f a0 a1) := mandolineref14_Follows.ok a0 a1
                rcases h17 : mandolineref14_Follows.f a0 a1 with _ | x18
                · simp only [D, DT, reduceIte, reduceCtorEq, Nat.reduceEqDiff, Nat.reduceAdd, Nat.reduceLT, Nat.reduceLeDiff, Nat.reduceBEq, Int.reduceLE, Int.reduceLT, Int.reduceEq, Int.reduceNeg, c1, h2, h4, c5, h6, h8, c9, h10, h12, c13, h14, c16, h17]
                · simp only [D, DT, reduceIte, reduceCtorEq, Nat.reduceEqDiff, Nat.reduceAdd, Nat.reduceLT, Nat.reduceLeDiff, Nat.reduceBEq, Int.reduceLE, Int.reduceLT, Int.reduceEq, Int.reduceNeg, c1, h2, h4, c5, h6, h8, c9, h10, h12, c13, h14, c16, h17]
                  cases h19 : (x15 == x18)
                  · simp only [D, DT, reduceIte, reduceCtorEq, Nat.reduceEqDiff, Nat.reduceAdd, Nat.reduceLT, Nat.reduceLeDiff, Nat.reduceBEq, Int.reduceLE, Int.reduceLT, Int.reduceEq, Int.reduceNeg, c1, h2, h4, c5, h6, h8, c9, h10, h12, c13, h14, c16, h17, h19]
                    try rfl
                  · simp only [D, DT, reduceIte, reduceCtorEq, Nat.reduceEqDiff, Nat.reduceAdd, Nat.reduceLT, Nat.reduceLeDiff, Nat.reduceBEq, Int.reduceLE, Int.reduceLT, Int.reduceEq, Int.reduceNeg, c1, h2, h4, c5, h6, h8, c9, h10, h12, c13, h14, c16, h17, h19]
                    have c20 : ansL X 18 [(.agg [(.str a0.Tag_Text), (.bool a0.Tag_Weak), (.int .i64 a0.Modified), (.int .i64 a0.Length), (.int .i64 a0.Have), (.int .i64 a0.Fresh), (.int .i64 a0.While), (.int .i64 a0.Error), (.sl (encL AV.str a0.Keys)), (.str a0.Tenant), (.bool a0.Keep)]), (.agg [(.str a1.Tag_Text), (.bool a1.Tag_Weak), (.int .i64 a1.Modified), (.int .i64 a1.Length), (.int .i64 a1.Have), (.int .i64 a1.Fresh), (.int .i64 a1.While), (.int .i64 a1.Error), (.sl (encL AV.str a1.Keys)), (.str a1.Tenant), (.bool a1.Keep)])] = Option.map AV.bool (meta_Same.f a0 a1) := meta_Same.ok a0 a1
                    rcases h21 : meta_Same.f a0 a1 with _ | x22
                    · simp only [D, DT, reduceIte, reduceCtorEq, Nat.reduceEqDiff, Nat.reduceAdd, Nat.reduceLT, Nat.reduceLeDiff, Nat.reduceBEq, Int.reduceLE, Int.reduceLT, Int.reduceEq, Int.reduceNeg, c1, h2, h4, c5, h6, h8, c9, h10, h12, c13, h14, c16, h17, h19, c20, h21]
                    · simp only [D, DT, reduceIte, reduceCtorEq, Nat.reduceEqDiff, Nat.reduceAdd, Nat.reduceLT, Nat.reduceLeDiff, Nat.reduceBEq, Int.reduceLE, Int.reduceLT, Int.reduceEq, Int.reduceNeg, c1, h2, h4, c5, h6, h8, c9, h10, h12, c13, h14, c16, h17, h19, c20, h21]
                      have c23 : ansL X 19 [(.agg [(.str a0.Tag_Text), (.bool a0.Tag_Weak), (.int .i64 a0.Modified), (.int .i64 a0.Length), (.int .i64 a0.Have), (.int .i64 a0.Fresh), (.int .i64 a0.While), (.int .i64 a0.Error), (.sl (encL AV.str a0.Keys)), (.str a0.Tenant), (.bool a0.Keep)]), (.agg [(.str a1.Tag_Text), (.bool a1.Tag_Weak), (.int .i64 a1.Modified), (.int .i64 a1.Length), (.int .i64 a1.Have), (.int .i64 a1.Fresh), (.int .i64 a1.While), (.int .i64 a1.Error), (.sl (encL AV.str a1.Keys)), (.str a1.Tenant), (.bool a1.Keep)])] = Option.map AV.bool (mandolineref14_Same.f a0 a1) := mandolineref14_Same.ok a0 a1
                      rcases h24 : mandolineref14_Same.f a0 a1 with _ | x25
                      · simp only [D, DT, reduceIte, reduceCtorEq, Nat.reduceEqDiff, Nat.reduceAdd, Nat.reduceLT, Nat.reduceLeDiff, Nat.reduceBEq, Int.reduceLE, Int.reduceLT, Int.reduceEq, Int.reduceNeg, c1, h2, h4, c5, h6, h8, c9, h10, h12, c13, h14, c16, h17, h19, c20, h21, c23, h24]
                      · simp only [D, DT, reduceIte, reduceCtorEq, Nat.reduceEqDiff, Nat.reduceAdd, Nat.reduceLT, Nat.reduceLeDiff, Nat.reduceBEq, Int.reduceLE, Int.reduceLT, Int.reduceEq, Int.reduceNeg, c1, h2, h4, c5, h6, h8, c9, h10, h12, c13, h14, c16, h17, h19, c20, h21, c23, h24]
                        try rfl
end Go.Proofs.YtkmefgabcdocpaaDoor
