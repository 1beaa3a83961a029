/-
  The answer to a request's conditions, told plainly. Its conditions: sizes of texts and lists.
-/
import Derived.Test.YtchlkbnjamgihaaDoorPureTagN
namespace Go.Proofs.YtchlkbnjamgihaaDoor
open Go Go.Den
set_option linter.unusedSimpArgs false
set_option linter.unusedVariables false

def tagM (m : api_Meta) : api_Tag := ⟨m.Tag_Text, m.Tag_Weak⟩
def failedS (ma : List api_Tag) (am : Bool) (un : Int) (m : api_Meta) (here : Bool) : Bool :=
  if am = true then !here else if 0 < ma.length then (if here = true then !oneS ma (tagM m) true else true)
  else here && (decide (0 ≤ un) && (decide (0 ≤ m.Modified) && decide (un < m.Modified)))
def sameS (no : List api_Tag) (an : Bool) (si : Int) (m : api_Meta) : Bool :=
  if an = true then true else if 0 < no.length then oneS no (tagM m) false
  else decide (0 ≤ si) && (!decide (m.Length = -1) && (decide (0 ≤ m.Modified) && decide (m.Modified ≤ si)))
def partS (sp : List api_Spec) (t : List UInt8) (w : Bool) (m : api_Meta) : Int :=
  if 0 < sp.length then (if (t == [] && w == false) = true then 1 else if strongS (tagM m) ⟨t, w⟩ = true then 1 else 2) else 1
def checkS (sp : List api_Spec) (ma no : List api_Tag) (am an : Bool) (si un : Int) (t : List UInt8) (w : Bool) (m : api_Meta) (here : Bool) : Int :=
  if failedS ma am un m here = true then 4 else if here = true then (if sameS no an si m = true then 3 else partS sp t w m) else 1

structure tagsWf (l : List api_Tag) : Prop where
  len : l.length ≤ maxLen
  all : ∀ x ∈ l, x.wf

theorem cond_failed_eq (c : api_Cond) (m : api_Meta) (here : Bool) (hm : tagsWf c.Match) (ht : (tagM m).wf) : cond_failed.f c m here = some (failedS c.Match c.AnyMatch c.Unless m here) := by
  unfold cond_failed.f failedS
  have e1 : decide ((0 : Int) < (c.Match.length : Int)) = decide (0 < c.Match.length) := by simp
  simp only [e1, tag_In_eq c.Match (tagM m) true hm.len hm.all ht, show (api_Tag.mk m.Tag_Text m.Tag_Weak) = tagM m from rfl]
  cases c.AnyMatch <;> cases here <;> by_cases h : 0 < c.Match.length <;> simp [h]
  all_goals cases decide (0 ≤ c.Unless) <;> cases decide (0 ≤ m.Modified) <;> rfl

theorem cond_same_eq (c : api_Cond) (m : api_Meta) (hm : tagsWf c.None) (ht : (tagM m).wf) : cond_same.f c m = some (sameS c.None c.AnyNone c.Since m) := by
  unfold cond_same.f sameS
  have e1 : decide ((0 : Int) < (c.None.length : Int)) = decide (0 < c.None.length) := by simp
  simp only [e1, tag_In_eq c.None (tagM m) false hm.len hm.all ht, show (api_Tag.mk m.Tag_Text m.Tag_Weak) = tagM m from rfl]
  cases c.AnyNone <;> by_cases h : 0 < c.None.length <;> simp [h]
  all_goals cases decide (0 ≤ c.Since) <;> cases decide (m.Length = -1) <;> cases decide (0 ≤ m.Modified) <;> rfl

theorem cond_Check_eq (r : api_Request) (m : api_Meta) (here : Bool) (h1 : tagsWf r.Cond_Match) (h2 : tagsWf r.Cond_None) (ht : (tagM m).wf) (hr : r.Cond_Range_Text.length ≤ maxLen) :
    cond_Check.f r m here = some (checkS r.Specs r.Cond_Match r.Cond_None r.Cond_AnyMatch r.Cond_AnyNone r.Cond_Since r.Cond_Unless r.Cond_Range_Text r.Cond_Range_Weak m here) := by
  unfold cond_Check.f checkS partS
  have e1 : decide ((0 : Int) < (r.Specs.length : Int)) = decide (0 < r.Specs.length) := by simp
  simp only [e1, show (api_Tag.mk m.Tag_Text m.Tag_Weak) = tagM m from rfl, tag_Strong_eq (tagM m) ⟨r.Cond_Range_Text, r.Cond_Range_Weak⟩ ht hr]
  rw [cond_failed_eq _ m here h1 ht, cond_same_eq _ m h2 ht]
  generalize (r.Cond_Range_Text == []) = q
  cases failedS r.Cond_Match r.Cond_AnyMatch r.Cond_Unless m here <;> simp
  cases here <;> simp
  cases sameS r.Cond_None r.Cond_AnyNone r.Cond_Since m <;> simp
  by_cases h : 0 < r.Specs.length
  · simp only [h, decide_true, if_true]
    cases q <;> cases r.Cond_Range_Weak <;> first | rfl | (cases strongS (tagM m) _ <;> rfl)
  · simp [h]

/-! Few: it answers. -/
def fewI (l : List api_Tag) (s : Int) : mandolineref08_Few.l1X :=
  foldE (fun (s : Int) (x : api_Tag) => if (400 : Int) < (x.Text.length : Int) then .inl .ret else .inr (IntKind.i64.wrap (s + (x.Text.length : Int)))) (fun s => .x2 s) l s
theorem few_in (l : List api_Tag) (hl : l.length ≤ maxLen) (s : Int) : loopL (fun (s : Int × Int) => mandolineref08_Few.l1B l s.1 s.2) (s, 0) = some (fewI l s) := by
  refine loop_list0 l (fun (s : Int) n => (s, (n : Int))) _ _ (fun _ _ => True) (fun n u x hn hu hx => ?_) (fun u hu => ?_) trivial rfl
  · have h1 : decide ((n : Int) < (l.length : Int)) = true := by simp; omega
    simp only [mandolineref08_Few.l1B, idx_nat, hx, bd, h1, wrap_succ (show n < 9223372036854775807 by unfold maxLen at hl; omega)]
    by_cases h : (400 : Int) < (x.Text.length : Int) <;> simp [h]
  · simp [mandolineref08_Few.l1B]
theorem few_some (c : api_Cond) (h1 : c.Match.length ≤ maxLen) (h2 : c.None.length ≤ maxLen) : ∃ b, mandolineref08_Few.f c = some b := by
  unfold mandolineref08_Few.f
  have e : loopL (fun (s : Int × Int) => mandolineref08_Few.l0B c s.1 s.2) ((c.Range_Text.length : Int), 0) = some (foldE (fun (s : Int) (x : List api_Tag) => if (40 : Int) < (x.length : Int) then .inl .ret else match fewI x s with | .x2 v => .inr v | .ret => .inl .ret) (fun s => mandolineref08_Few.l0X.x0 s) [c.Match, c.None] (c.Range_Text.length : Int)) := by
    refine loop_list0 [c.Match, c.None] (fun (s : Int) n => (s, (n : Int))) _ _ (fun _ _ => True) (fun n u x hn hu hx => ?_) (fun u hu => ?_) trivial rfl
    · have h3 : decide ((n : Int) < 2) = true := by simp at hn ⊢; omega
      have hxl : x.length ≤ maxLen := by
        have := List.mem_of_getElem? hx
        simp at this
        rcases this with rfl | rfl <;> assumption
      simp only [mandolineref08_Few.l0B, idx_nat, hx, bd, h3, few_in x hxl]
      by_cases h : (40 : Int) < (x.length : Int)
      · simp [h]
      · have : IntKind.i64.wrap ((n : Int) + 1) = ((n + 1 : Nat) : Int) := wrap_succ (by simp at hn; omega)
        simp only [h, if_false, decide_false, cond_false]
        cases fewI x u <;> simp [mandolineref08_Few.a1, this]
    · simp [mandolineref08_Few.l0B]
  rw [e]
  generalize foldE _ _ _ _ = q
  cases q <;> exact ⟨_, rfl⟩

theorem tagsWf_nil : tagsWf [] := ⟨Nat.zero_le _, by simp⟩
theorem tagsWf_one {t : api_Tag} (h : t.wf) : tagsWf [t] := ⟨by unfold maxLen; simp, by simpa using h⟩

theorem awake_eq : mandolinelaw08_awake.f = some true := by
  have w : (tagM ⟨[97], false, -1, 5, 0, 0, 0, 0, [], [], false⟩).wf := by unfold api_Tag.wf tagM maxLen; decide
  have w1 : (⟨[97], true⟩ : api_Tag).wf := by unfold api_Tag.wf maxLen; decide
  unfold mandolinelaw08_awake.f
  rw [cond_Check_eq _ _ true tagsWf_nil tagsWf_nil w (Nat.zero_le _), cond_Check_eq _ _ true tagsWf_nil (tagsWf_one w1) w (Nat.zero_le _), cond_Check_eq _ _ true tagsWf_nil tagsWf_nil w (by unfold maxLen; decide)]
  rfl

theorem reqWf {r : api_Request} (h : r.wf) : tagsWf r.Cond_Match ∧ tagsWf r.Cond_None ∧ r.Cond_Range_Text.length ≤ maxLen ∧ r.Specs.length ≤ maxLen := by
  unfold api_Request.wf at h
  obtain ⟨_, h2, h3, h4, _, _, h5⟩ := h
  exact ⟨⟨h3.1, h3.2⟩, ⟨h4.1, h4.2⟩, h5, h2.1⟩
theorem metaWf {m : api_Meta} (h : m.wf) : (tagM m).wf := by
  unfold api_Meta.wf at h; exact h.1

theorem law_CondNone (r : api_Request) (m : api_Meta) (here : Bool) (hr : r.wf) (hm : m.wf) : mandolinelaw08_CondNone.f r m here = some true := by
  obtain ⟨h1, h2, h3, h4⟩ := reqWf hr
  have hm := metaWf hm
  unfold mandolinelaw08_CondNone.f
  obtain ⟨b, hb⟩ := few_some (api_Cond.mk r.Cond_Match r.Cond_None r.Cond_AnyMatch r.Cond_AnyNone r.Cond_Since r.Cond_Unless r.Cond_Range_Text r.Cond_Range_Weak) h1.len h2.len
  have hn : cond_Check.f (api_Request.mk r.Head r.Object r.Specs [] [] false false (-1) (-1) [] false) m here = some 1 := by
    rw [cond_Check_eq _ m here tagsWf_nil tagsWf_nil hm (Nat.zero_le _)]
    have e1 : failedS [] false (-1) m here = false := by simp [failedS]
    have e2 : sameS [] false (-1) m = false := by simp [sameS]
    have e3 : partS r.Specs [] false m = 1 := by unfold partS; split <;> simp
    simp only [checkS, e1, e2, e3, Bool.false_eq_true, if_false]
    split <;> rfl
  have hg : cond_Check.f r m false = some (if r.Cond_AnyMatch = true then 4 else if 0 < r.Cond_Match.length then 4 else 1) := by
    rw [cond_Check_eq r m false h1 h2 hm h3]
    have e1 : failedS r.Cond_Match r.Cond_AnyMatch r.Cond_Unless m false = (r.Cond_AnyMatch || decide (0 < r.Cond_Match.length)) := by
      unfold failedS
      cases r.Cond_AnyMatch <;> by_cases h : 0 < r.Cond_Match.length <;> simp [h]
    simp only [checkS, e1, Bool.false_eq_true, if_false]
    cases r.Cond_AnyMatch <;> by_cases h : 0 < r.Cond_Match.length <;> simp [h]
  have e1 : decide ((0 : Int) < (r.Cond_Match.length : Int)) = decide (0 < r.Cond_Match.length) := by simp
  rw [hb, awake_eq, hn, hg, e1]
  cases b <;> cases decide ((70 : Int) < (r.Specs.length : Int)) <;> cases r.Cond_AnyMatch <;> by_cases h : 0 < r.Cond_Match.length <;> simp [h]
end Go.Proofs.YtchlkbnjamgihaaDoor
