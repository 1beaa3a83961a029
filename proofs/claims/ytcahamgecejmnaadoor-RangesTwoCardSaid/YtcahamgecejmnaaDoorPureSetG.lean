/-
  What several laws of sets share: lists held against each other, great arguments, the wake. Its conditions: lists of at most 1000000 spans.
-/
import Derived.Test.YtcahamgecejmnaaDoorP5
import Derived.Test.YtcahamgecejmnaaDoorPureSetA
namespace Go.Proofs.YtcahamgecejmnaaDoor
open Go Go.Den
set_option linter.unusedSimpArgs false
set_option linter.unusedVariables false

theorem great_eq (ls : List (List api_Span)) (hl : ls.length ≤ maxLen) : mandolinelaw02_great.f ls = some (ls.any fun x => decide ((20 : Int) < (x.length : Int))) := by
  unfold mandolinelaw02_great.f
  have e : loopL (mandolinelaw02_great.l0B ls) 0 = some ((ls.findSome? fun x => if decide ((20 : Int) < (x.length : Int)) = true then some mandolinelaw02_great.l0X.ret else none).getD .x0) := by
    refine loop_find _ _ hl (fun n s hn hs hw => ?_) ?_
    · have h1 : decide ((n : Int) < (ls.length : Int)) = true := by simp; omega
      simp only [mandolinelaw02_great.l0B, idx_nat, hs, bd, h1, hw]
      by_cases q : (20 : Int) < (s.length : Int) <;> simp [q]
    · simp [mandolinelaw02_great.l0B]
  rw [e, find_any]
  simp only [Option.bind_some]
  cases (ls.any fun x => decide ((20 : Int) < (x.length : Int))) <;> rfl

theorem wakes_eq : mandolinelaw02_wakes.f = some true := rfl

/-! lists held against each other -/
instance : DecidableEq api_Span := fun x y => if h : x.From = y.From ∧ x.To = y.To then isTrue (by cases x; cases y; simp_all) else isFalse (by intro q; subst q; exact h ⟨rfl, rfl⟩)
theorem span_eq {a b : api_Span} : ((decide (a.From = b.From)) && (decide (a.To = b.To))) = decide (a = b) := by
  rw [Bool.eq_iff_iff]
  cases a; cases b
  simp
theorem find_zip {E : Type} (e : E) : ∀ (a b : List api_Span), a.length = b.length → ((a.zip b).findSome? fun p => if p.1 = p.2 then none else some e) = if a = b then none else some e
  | [], [], _ => rfl
  | [], _ :: _, h => by simp at h
  | _ :: _, [], h => by simp at h
  | x :: a, y :: b, h => by
    simp only [List.zip_cons_cons, List.findSome?_cons]
    by_cases hxy : x = y
    · simp only [hxy, if_true, find_zip e a b (by simpa using h)]
      simp
    · simp [hxy]
theorem zip_get {a b : List api_Span} {n : Nat} {p : api_Span × api_Span} (h : (a.zip b)[n]? = some p) : a[n]? = some p.1 ∧ b[n]? = some p.2 := by
  rw [List.getElem?_zip_eq_some] at h; exact h
theorem ref_List_eq (a b : List api_Span) (ha : a.length ≤ maxLen) : mandolineref02_List.f a b = some (decide (a = b)) := by
  unfold mandolineref02_List.f
  by_cases hl : a.length = b.length
  · have h0 : decide ((a.length : Int) = (b.length : Int)) = true := by simp only [decide_eq_true_eq]; omega
    have hz : (a.zip b).length = a.length := by simp [hl]
    have e : loopL (mandolineref02_List.l0B a b) 0 = some (((a.zip b).findSome? fun p => if p.1 = p.2 then none else some mandolineref02_List.l0X.ret).getD .x0) := by
      refine loop_find _ _ (by omega) (fun n p hn hp hw => ?_) ?_
      · obtain ⟨h1, h2⟩ := zip_get hp
        have h3 : decide ((n : Int) < (a.length : Int)) = true := by simp only [decide_eq_true_eq]; omega
        simp only [mandolineref02_List.l0B, idx_nat, h1, h2, bd, h3, hw, span_eq, cond_true]
        by_cases q : p.1 = p.2 <;> simp [q]
      · rw [hz]; simp [mandolineref02_List.l0B]
    rw [h0, cond_true, e, find_zip _ a b hl]
    by_cases q : a = b <;> simp [q, mandolineref02_List.a0]
  · have h0 : decide ((a.length : Int) = (b.length : Int)) = false := by simp only [decide_eq_false_iff_not]; omega
    rw [h0, cond_false]
    have : a ≠ b := fun h => hl (by rw [h])
    simp [this]
theorem Same_eq (a b : List api_Span) (ha : a.length ≤ maxLen) : ranges_Set_Same.f ⟨a⟩ ⟨b⟩ = some (decide (a = b)) := by
  unfold ranges_Set_Same.f
  by_cases hl : a.length = b.length
  · have h0 : decide ((a.length : Int) = (b.length : Int)) = true := by simp only [decide_eq_true_eq]; omega
    have hz : (a.zip b).length = a.length := by simp [hl]
    have e : loopL (ranges_Set_Same.l0B ⟨a⟩ ⟨b⟩) 0 = some (((a.zip b).findSome? fun p => if p.1 = p.2 then none else some ranges_Set_Same.l0X.ret).getD .x0) := by
      refine loop_find _ _ (by omega) (fun n p hn hp hw => ?_) ?_
      · obtain ⟨h1, h2⟩ := zip_get hp
        have h3 : decide ((n : Int) < (a.length : Int)) = true := by simp only [decide_eq_true_eq]; omega
        simp only [ranges_Set_Same.l0B, idx_nat, h1, h2, bd, h3, hw, span_eq, cond_true]
        by_cases q : p.1 = p.2 <;> simp [q]
      · rw [hz]; simp [ranges_Set_Same.l0B]
    simp only [h0, cond_true]
    rw [e, find_zip _ a b hl]
    by_cases q : a = b <;> simp [q, ranges_Set_Same.a0]
  · have h0 : decide ((a.length : Int) = (b.length : Int)) = false := by simp only [decide_eq_false_iff_not]; omega
    simp only [h0, cond_false]
    have : a ≠ b := fun h => hl (by rw [h])
    simp [this]
theorem Spans_eq (a : List api_Span) (ha : a.length ≤ 1000000) : ranges_Set_Spans.f ⟨a⟩ = some a := by
  unfold ranges_Set_Spans.f slices_Clone_api_Span.f
  rw [if_pos ⟨by unfold maxLen; simp only; omega, by simp only; omega⟩]; rfl

end Go.Proofs.YtcahamgecejmnaaDoor
