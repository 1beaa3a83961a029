/-
  The statements on versions, told plainly: each is true. Its conditions: sizes of texts.
-/
import Derived.Test.YtkmefgabcdocpaaDoorPureMetaC
namespace Go.Proofs.YtkmefgabcdocpaaDoor
open Go Go.Den
set_option linter.unusedSimpArgs false
set_option linter.unusedVariables false

theorem wakes_eq : mandolinelaw14_wakes.f = some true := rfl

theorem law_MetaRight (m : api_Meta) (hm : m.wf) : mandolinelaw14_MetaRight.f m = some true := by
  unfold mandolinelaw14_MetaRight.f
  obtain ⟨b, hb⟩ := small_some m hm
  rw [wakes_eq, hb, meta_Right_eq m hm, ref_Right14_eq m hm, meta_Joins_eq m hm, ref_Joins_eq m hm]
  cases b <;> simp

theorem law_MetaFollows (a b : api_Meta) (ha : a.wf) (hb : b.wf) : mandolinelaw14_MetaFollows.f a b = some true := by
  unfold mandolinelaw14_MetaFollows.f
  obtain ⟨s, hs⟩ := small_some a ha
  obtain ⟨t, ht⟩ := small_some b hb
  rw [wakes_eq, hs, ht, meta_Follows_eq a b ha hb, ref_Follows_eq a b ha hb, meta_Same_eq a b ha, ref_Same_eq a b ha]
  cases s <;> cases t <;> simp

theorem strong_self (t : api_Tag) : strongS t t = (tagOK t.Text && !t.Weak) := by
  unfold strongS weakS
  cases tagOK t.Text <;> cases t.Weak <;> simp
theorem follows_self (a : api_Meta) : followsS a a = (rightS a && joinsS a) := by
  unfold followsS
  rw [strong_self]
  show (rightS a && (rightS a && (joinsS a && (joinsS a && _)))) = _
  cases rightS a <;> cases joinsS a <;> simp
theorem strong_trans {x y z : api_Tag} (h1 : strongS x y = true) (h2 : strongS y z = true) : strongS x z = true := by
  simp only [strongS, weakS, Bool.and_eq_true, beq_iff_eq, Bool.not_eq_true'] at h1 h2 ⊢
  obtain ⟨⟨a1, a2, a3⟩, a4, a5⟩ := h1
  obtain ⟨⟨b1, b2, b3⟩, b4, b5⟩ := h2
  exact ⟨⟨a1, b2, a3.trans b3⟩, a4, b5⟩
theorem follows_trans {a b c : api_Meta} (h1 : followsS a b = true) (h2 : followsS b c = true) : followsS a c = true := by
  simp only [followsS, Bool.and_eq_true, decide_eq_true_eq] at h1 h2 ⊢
  obtain ⟨a1, a2, a3, a4, a5, a6⟩ := h1
  obtain ⟨b1, b2, b3, b4, b5, b6⟩ := h2
  refine ⟨a1, b2, a3, strong_trans a4 b4, a5.trans b5, ?_⟩
  -- what has an end has it
  have hr : ∀ m : api_Meta, rightS m = true → (-1 ≤ m.Length ∧ (0 ≤ m.Length → m.Have = m.Length)) := fun m hm => by
    simp only [rightS, withinS, Bool.and_eq_true, Bool.or_eq_true, decide_eq_true_eq, Bool.not_eq_true', decide_eq_false_iff_not] at hm
    exact ⟨hm.2.2.2.1.1, fun h => hm.2.2.2.2.2.1.elim (fun h' => absurd h h') id⟩
  by_cases h : 0 ≤ a.Length
  · rw [if_pos h] at a6 ⊢
    have e := of_decide_eq_true a6
    rw [if_pos (by omega)] at b6
    have e2 := of_decide_eq_true b6
    exact decide_eq_true (by omega)
  · rw [if_neg h] at a6 ⊢
    have e := of_decide_eq_true a6
    by_cases h' : 0 ≤ b.Length
    · rw [if_pos h'] at b6
      have e2 := of_decide_eq_true b6
      have q1 := (hr b a2).2 h'
      have q2 := (hr c b2).2 (by omega)
      exact decide_eq_true (by omega)
    · rw [if_neg h'] at b6
      have e2 := of_decide_eq_true b6
      exact decide_eq_true (by omega)
theorem law_MetaChain (a b c : api_Meta) (ha : a.wf) (hb : b.wf) (hc : c.wf) : mandolinelaw14_MetaChain.f a b c = some true := by
  unfold mandolinelaw14_MetaChain.f
  obtain ⟨s, hs⟩ := small_some a ha
  obtain ⟨t, ht⟩ := small_some b hb
  obtain ⟨u, hu⟩ := small_some c hc
  rw [wakes_eq, hs, ht, hu, meta_Follows_eq a b ha hb, meta_Follows_eq b c hb hc, meta_Follows_eq a c ha hc, meta_Follows_eq a a ha ha, ref_Right14_eq a ha, ref_Joins_eq a ha, follows_self]
  have tr : followsS a b = true → followsS b c = true → followsS a c = true := follows_trans
  cases s <;> cases t <;> cases u <;> (try rfl)
  cases h1 : followsS a b
  · cases rightS a <;> cases joinsS a <;> rfl
  · cases h2 : followsS b c
    · cases rightS a <;> cases joinsS a <;> rfl
    · rw [tr h1 h2]; cases rightS a <;> cases joinsS a <;> rfl
end Go.Proofs.YtkmefgabcdocpaaDoor
