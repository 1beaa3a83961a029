/-
  The answer to a request's conditions, told plainly. Its conditions: sizes of texts and lists.
-/
import Derived.Test.YtchlkbnjamgihaaPureTag
namespace Go.Proofs.Ytchlkbnjamgihaa
open Go Go.Den
set_option linter.unusedSimpArgs false
set_option linter.unusedVariables false

def tagM (m : api_Meta) : api_Tag := ⟨m.Tag_Text, m.Tag_Weak⟩
def failedS (ma : List api_Tag) (am : Bool) (un : Int) (m : api_Meta) (here : Bool) : Bool :=
  if am = true then !here else if 0 < ma.length then (if here = true then !oneS ma (tagM m) true else true)
  else here && (decide (0 ≤ un) && (decide (0 ≤ m.Modified) && decide (un < m.Modified)))
def sameS (no : List api_Tag) (an : Bool) (si : Int) (m : api_Meta) : Bool :=
  if an = true then true else if 0 < no.length then oneS no (tagM m) false
  else decide (0 ≤ si) && (!decide (m.Length = -1) && (decide (0 ≤ m.Modified) && decide (m.Modified ≤ si)))
def partS (sp : List api_Spec) (t : List UInt8) (w : Bool) (m : api_Meta) : Int :=
  if 0 < sp.length then (if (t == [] && w == false) = true then 1 else if strongS (tagM m) ⟨t, w⟩ = true then 1 else 2) else 1
def checkS (sp : List api_Spec) (ma no : List api_Tag) (am an : Bool) (si un : Int) (t : List UInt8) (w : Bool) (m : api_Meta) (here : Bool) : Int :=
  if failedS ma am un m here = true then 4 else if here = true then (if sameS no an si m = true then 3 else partS sp t w m) else 1

structure tagsWf (l : List api_Tag) : Prop where
  len : l.length ≤ maxLen
  all : ∀ x ∈ l, x.wf

theorem cond_failed_eq (c : api_Cond) (m : api_Meta) (here : Bool) (hm : tagsWf c.Match) (ht : (tagM m).wf) : cond_failed.f c m here = some (failedS c.Match c.AnyMatch c.Unless m here) := by
  unfold cond_failed.f failedS
  have e1 : decide ((0 : Int) < (c.Match.length : Int)) = decide (0 < c.Match.length) := by simp
  simp only [e1, tag_In_eq c.Match (tagM m) true hm.len hm.all ht, show (api_Tag.mk m.Tag_Text m.Tag_Weak) = tagM m from rfl]
  cases c.AnyMatch <;> cases here <;> by_cases h : 0 < c.Match.length <;> simp [h]
  all_goals cases decide (0 ≤ c.Unless) <;> cases decide (0 ≤ m.Modified) <;> rfl

theorem cond_same_eq (c : api_Cond) (m : api_Meta) (hm : tagsWf c.None) (ht : (tagM m).wf) : cond_same.f c m = some (sameS c.None c.AnyNone c.Since m) := by
  unfold cond_same.f sameS
  have e1 : decide ((0 : Int) < (c.None.length : Int)) = decide (0 < c.None.length) := by simp
  simp only [e1, tag_In_eq c.None (tagM m) false hm.len hm.all ht, show (api_Tag.mk m.Tag_Text m.Tag_Weak) = tagM m from rfl]
  cases c.AnyNone <;> by_cases h : 0 < c.None.length <;> simp [h]
  all_goals cases decide (0 ≤ c.Since) <;> cases decide (m.Length = -1) <;> cases decide (0 ≤ m.Modified) <;> rfl

theorem cond_Check_eq (r : api_Request) (m : api_Meta) (here : Bool) (h1 : tagsWf r.Cond_Match) (h2 : tagsWf r.Cond_None) (ht : (tagM m).wf) (hr : r.Cond_Range_Text.length ≤ maxLen) :
    cond_Check.f r m here = some (checkS r.Specs r.Cond_Match r.Cond_None r.Cond_AnyMatch r.Cond_AnyNone r.Cond_Since r.Cond_Unless r.Cond_Range_Text r.Cond_Range_Weak m here) := by
  unfold cond_Check.f checkS partS
  have e1 : decide ((0 : Int) < (r.Specs.length : Int)) = decide (0 < r.Specs.length) := by simp
  simp only [e1, show (api_Tag.mk m.Tag_Text m.Tag_Weak) = tagM m from rfl, tag_Strong_eq (tagM m) ⟨r.Cond_Range_Text, r.Cond_Range_Weak⟩ ht hr]
  rw [cond_failed_eq _ m here h1 ht, cond_same_eq _ m h2 ht]
  generalize (r.Cond_Range_Text == []) = q
  cases failedS r.Cond_Match r.Cond_AnyMatch r.Cond_Unless m here <;> simp
  cases here <;> simp
  cases sameS r.Cond_None r.Cond_AnyNone r.Cond_Since m <;> simp
  by_cases h : 0 < r.Specs.length
  · simp only [h, decide_true, if_true]
    cases q <;> cases r.Cond_Range_Weak <;> first | rfl | (cases strongS (tagM m) _ <;> rfl)
  · simp [h]

theorem chk (hd : Bool) (ob : List UInt8) (sp : List api_Spec) (ma no : List api_Tag) (am an : Bool) (si un : Int) (t : List UInt8) (w : Bool) (m : api_Meta) (here : Bool) (h1 : tagsWf ma) (h2 : tagsWf no) (ht : (tagM m).wf) (hr : t.length ≤ maxLen) :
    cond_Check.f ⟨hd, ob, sp, ma, no, am, an, si, un, t, w⟩ m here = some (checkS sp ma no am an si un t w m here) := cond_Check_eq ⟨hd, ob, sp, ma, no, am, an, si, un, t, w⟩ m here h1 h2 ht hr

theorem strong_nil (w : Bool) (t : api_Tag) : strongS ⟨[], w⟩ t = false := by
  simp [strongS, weakS, tagOK]

theorem ref_k1_eq (r : api_Request) (m : api_Meta) (ht : (tagM m).wf) (hr : r.Cond_Range_Text.length ≤ maxLen) :
    mandolineref08_Check.k1 r m = some (partS r.Specs r.Cond_Range_Text r.Cond_Range_Weak m) := by
  unfold mandolineref08_Check.k1 partS
  have e1 : decide ((0 : Int) < (r.Specs.length : Int)) = decide (0 < r.Specs.length) := by simp
  simp only [e1, show (api_Tag.mk m.Tag_Text m.Tag_Weak) = tagM m from rfl, ref_Strong_eq ⟨r.Cond_Range_Text, r.Cond_Range_Weak⟩ (tagM m) hr ht, ref_Strong_eq ⟨r.Cond_Range_Text, true⟩ (tagM m) hr ht, strongS_comm _ (tagM m)]
  generalize (r.Cond_Range_Text == []) = q
  by_cases h : 0 < r.Specs.length
  · simp only [h, decide_true, if_true]
    cases r.Cond_Range_Weak with
    | true =>
      generalize strongS (tagM m) ⟨r.Cond_Range_Text, true⟩ = o2
      cases q <;> cases o2 <;> rfl
    | false =>
      generalize strongS (tagM m) ⟨r.Cond_Range_Text, true⟩ = o1
      generalize strongS (tagM m) ⟨r.Cond_Range_Text, false⟩ = o2
      cases q <;> cases o1 <;> cases o2 <;> rfl
  · simp only [h, decide_false, if_false, cond_false]
    cases q <;> rfl
theorem ref_k2_eq (r : api_Request) (m : api_Meta) (ht : (tagM m).wf) (hr : r.Cond_Range_Text.length ≤ maxLen) :
    mandolineref08_Check.k2 r m = some (partS r.Specs r.Cond_Range_Text r.Cond_Range_Weak m) := by
  rw [← ref_k1_eq r m ht hr]; rfl

theorem ref_Check_eq (r : api_Request) (m : api_Meta) (here : Bool) (h1 : tagsWf r.Cond_Match) (h2 : tagsWf r.Cond_None) (ht : (tagM m).wf) (hr : r.Cond_Range_Text.length ≤ maxLen) :
    mandolineref08_Check.f r m here = some (checkS r.Specs r.Cond_Match r.Cond_None r.Cond_AnyMatch r.Cond_AnyNone r.Cond_Since r.Cond_Unless r.Cond_Range_Text r.Cond_Range_Weak m here) := by
  unfold mandolineref08_Check.f mandolineref08_Check.k0 checkS failedS sameS
  have e1 : decide ((0 : Int) < (r.Cond_Match.length : Int)) = decide (0 < r.Cond_Match.length) := by simp
  have e2 : decide ((0 : Int) < (r.Cond_None.length : Int)) = decide (0 < r.Cond_None.length) := by simp
  simp only [e1, e2, show (api_Tag.mk m.Tag_Text m.Tag_Weak) = tagM m from rfl, ref_k1_eq r m ht hr, ref_k2_eq r m ht hr, ref_one_eq r.Cond_Match (tagM m) true h1.len h1.all ht, ref_one_eq r.Cond_None (tagM m) false h2.len h2.all ht]
  generalize partS r.Specs r.Cond_Range_Text r.Cond_Range_Weak m = p
  generalize oneS r.Cond_Match (tagM m) true = o1
  generalize oneS r.Cond_None (tagM m) false = o2
  cases r.Cond_AnyMatch <;> cases here <;> cases r.Cond_AnyNone <;> by_cases h3 : 0 < r.Cond_Match.length <;> by_cases h4 : 0 < r.Cond_None.length <;> simp [h3, h4]
  all_goals (cases o1 <;> cases o2 <;> try simp)
  all_goals (by_cases h5 : 0 ≤ r.Cond_Unless <;> by_cases h6 : 0 ≤ m.Modified <;> by_cases h7 : r.Cond_Unless < m.Modified <;> try simp [h5, h6, h7])
  all_goals (by_cases h8 : 0 ≤ r.Cond_Since <;> by_cases h9 : m.Length = -1 <;> by_cases h10 : m.Modified ≤ r.Cond_Since <;> try simp [h8, h9, h10, h6])

/-! Few: it answers. -/
def fewI (l : List api_Tag) (s : Int) : mandolineref08_Few.l1X :=
  foldE (fun (s : Int) (x : api_Tag) => if (400 : Int) < (x.Text.length : Int) then .inl .ret else .inr (IntKind.i64.wrap (s + (x.Text.length : Int)))) (fun s => .x2 s) l s
theorem few_in (l : List api_Tag) (hl : l.length ≤ maxLen) (s : Int) : loopL (fun (s : Int × Int) => mandolineref08_Few.l1B l s.1 s.2) (s, 0) = some (fewI l s) := by
  refine loop_list0 l (fun (s : Int) n => (s, (n : Int))) _ _ (fun _ _ => True) (fun n u x hn hu hx => ?_) (fun u hu => ?_) trivial rfl
  · have h1 : decide ((n : Int) < (l.length : Int)) = true := by simp; omega
    simp only [mandolineref08_Few.l1B, idx_nat, hx, bd, h1, wrap_succ (show n < 9223372036854775807 by unfold maxLen at hl; omega)]
    by_cases h : (400 : Int) < (x.Text.length : Int) <;> simp [h]
  · simp [mandolineref08_Few.l1B]
theorem few_some (c : api_Cond) (h1 : c.Match.length ≤ maxLen) (h2 : c.None.length ≤ maxLen) : ∃ b, mandolineref08_Few.f c = some b := by
  unfold mandolineref08_Few.f
  have e : loopL (fun (s : Int × Int) => mandolineref08_Few.l0B c s.1 s.2) ((c.Range_Text.length : Int), 0) = some (foldE (fun (s : Int) (x : List api_Tag) => if (40 : Int) < (x.length : Int) then .inl .ret else match fewI x s with | .x2 v => .inr v | .ret => .inl .ret) (fun s => mandolineref08_Few.l0X.x0 s) [c.Match, c.None] (c.Range_Text.length : Int)) := by
    refine loop_list0 [c.Match, c.None] (fun (s : Int) n => (s, (n : Int))) _ _ (fun _ _ => True) (fun n u x hn hu hx => ?_) (fun u hu => ?_) trivial rfl
    · have h3 : decide ((n : Int) < 2) = true := by simp at hn ⊢; omega
      have hxl : x.length ≤ maxLen := by
        have := List.mem_of_getElem? hx
        simp at this
        rcases this with rfl | rfl <;> assumption
      simp only [mandolineref08_Few.l0B, idx_nat, hx, bd, h3, few_in x hxl]
      by_cases h : (40 : Int) < (x.length : Int)
      · simp [h]
      · have : IntKind.i64.wrap ((n : Int) + 1) = ((n + 1 : Nat) : Int) := wrap_succ (by simp at hn; omega)
        simp only [h, if_false, decide_false, cond_false]
        cases fewI x u <;> simp [mandolineref08_Few.a1, this]
    · simp [mandolineref08_Few.l0B]
  rw [e]
  generalize foldE _ _ _ _ = q
  cases q <;> exact ⟨_, rfl⟩

theorem cond_None_eq : cond_None.f = some ⟨[], [], false, false, -1, -1, [], false⟩ := rfl
theorem tagsWf_nil : tagsWf [] := ⟨Nat.zero_le _, by simp⟩
theorem tagsWf_one {t : api_Tag} (h : t.wf) : tagsWf [t] := ⟨by unfold maxLen; simp, by simpa using h⟩

theorem awake_eq : mandolinelaw08_awake.f = some true := by
  have w : (tagM ⟨[97], false, -1, 5, 0, 0, 0, 0, [], [], false⟩).wf := by unfold api_Tag.wf tagM maxLen; decide
  have w1 : (⟨[97], true⟩ : api_Tag).wf := by unfold api_Tag.wf maxLen; decide
  unfold mandolinelaw08_awake.f
  rw [cond_None_eq]
  simp only [bd]
  rw [cond_Check_eq _ _ true tagsWf_nil tagsWf_nil w (Nat.zero_le _), cond_Check_eq _ _ true tagsWf_nil (tagsWf_one w1) w (Nat.zero_le _), cond_Check_eq _ _ true tagsWf_nil tagsWf_nil w (by unfold maxLen; decide)]
  rfl

theorem reqWf {r : api_Request} (h : r.wf) : tagsWf r.Cond_Match ∧ tagsWf r.Cond_None ∧ r.Cond_Range_Text.length ≤ maxLen ∧ r.Specs.length ≤ maxLen := by
  unfold api_Request.wf at h
  obtain ⟨_, h2, h3, h4, _, _, h5⟩ := h
  exact ⟨⟨h3.1, h3.2⟩, ⟨h4.1, h4.2⟩, h5, h2.1⟩
theorem metaWf {m : api_Meta} (h : m.wf) : (tagM m).wf := by
  unfold api_Meta.wf at h; exact h.1

theorem law_CondChecks (r : api_Request) (m : api_Meta) (here : Bool) (hr : r.wf) (hm : m.wf) : mandolinelaw08_CondChecks.f r m here = some true := by
  obtain ⟨h1, h2, h3, h4⟩ := reqWf hr
  have hm := metaWf hm
  unfold mandolinelaw08_CondChecks.f
  obtain ⟨b, hb⟩ := few_some (api_Cond.mk r.Cond_Match r.Cond_None r.Cond_AnyMatch r.Cond_AnyNone r.Cond_Since r.Cond_Unless r.Cond_Range_Text r.Cond_Range_Weak) h1.len h2.len
  rw [hb, awake_eq, cond_Check_eq r m here h1 h2 hm h3, ref_Check_eq r m here h1 h2 hm h3]
  cases b <;> simp

theorem four (sp sp' : List api_Spec) (ma no no' : List api_Tag) (am an an' : Bool) (si si' un : Int) (t t' : List UInt8) (w w' : Bool) (m : api_Meta) (here : Bool) :
    (checkS sp ma no am an si un t w m here = 4) ↔ (checkS sp' ma no' am an' si' un t' w' m here = 4) := by
  unfold checkS partS
  cases failedS ma am un m here
  · cases here
    · simp
    · simp only [Bool.false_eq_true, if_false, if_true]
      constructor
      · intro h; exfalso; revert h; split <;> (try split) <;> (try split) <;> (try split) <;> simp
      · intro h; exfalso; revert h; split <;> (try split) <;> (try split) <;> (try split) <;> simp
  · simp
theorem three (sp sp' : List api_Spec) (ma no : List api_Tag) (am an : Bool) (si si' un : Int) (t t' : List UInt8) (w w' : Bool) (m : api_Meta) (here : Bool) (hs : sameS no an si m = sameS no an si' m) :
    (checkS sp ma no am an si un t w m here = 3) ↔ (checkS sp' ma no am an si' un t' w' m here = 3) := by
  unfold checkS partS
  rw [hs]
  cases failedS ma am un m here
  · cases here
    · simp
    · simp only [Bool.false_eq_true, if_false, if_true]
      cases sameS no an si' m
      · constructor
        · intro h; exfalso; revert h; simp only [Bool.false_eq_true, if_false]; (try split) <;> (try split) <;> (try split) <;> simp
        · intro h; exfalso; revert h; simp only [Bool.false_eq_true, if_false]; (try split) <;> (try split) <;> (try split) <;> simp
      · simp
  · simp

theorem four' (sp sp' : List api_Spec) (ma no no' : List api_Tag) (am an an' : Bool) (si si' un : Int) (t t' : List UInt8) (w w' : Bool) (m : api_Meta) (here : Bool) :
    decide (checkS sp ma no am an si un t w m here = 4) = decide (checkS sp' ma no' am an' si' un t' w' m here = 4) := by
  rw [decide_eq_decide]; exact four ..
theorem three' (sp sp' : List api_Spec) (ma no : List api_Tag) (am an : Bool) (si si' un : Int) (t t' : List UInt8) (w w' : Bool) (m : api_Meta) (here : Bool) (hs : sameS no an si m = sameS no an si' m) :
    decide (checkS sp ma no am an si un t w m here = 3) = decide (checkS sp' ma no am an si' un t' w' m here = 3) := by
  rw [decide_eq_decide]; exact three (hs := hs) ..

theorem law_CondOrder (r : api_Request) (m : api_Meta) (c : api_Cond) (hr : r.wf) (hm : m.wf) (hc : c.wf) : mandolinelaw08_CondOrder.f r m c = some true := by
  obtain ⟨h1, h2, h3, h4⟩ := reqWf hr
  have hm := metaWf hm
  have hc2 : tagsWf c.None := by unfold api_Cond.wf at hc; exact ⟨hc.2.1.1, hc.2.1.2⟩
  have hc1 : c.Match.length ≤ maxLen := by unfold api_Cond.wf at hc; exact hc.1.1
  have hc3 : c.Range_Text.length ≤ maxLen := by unfold api_Cond.wf at hc; exact hc.2.2.2.2
  unfold mandolinelaw08_CondOrder.f
  obtain ⟨b, hb⟩ := few_some (api_Cond.mk r.Cond_Match r.Cond_None r.Cond_AnyMatch r.Cond_AnyNone r.Cond_Since r.Cond_Unless r.Cond_Range_Text r.Cond_Range_Weak) h1.len h2.len
  obtain ⟨b', hb'⟩ := few_some c hc1 hc2.len
  rw [hb, hb', awake_eq]
  simp only [bd, chk (h1 := h1) (h2 := h2) (ht := hm) (hr := h3), chk (h1 := h1) (h2 := h2) (ht := hm) (hr := hc3), chk (h1 := h1) (h2 := hc2) (ht := hm) (hr := hc3), cond_Check_eq r m true h1 h2 hm h3]
  cases b <;> simp only [cond_true, cond_false]
  cases b' <;> simp only [cond_true, cond_false]
  cases decide ((70 : Int) < (r.Specs.length : Int)) <;> simp only [cond_true, cond_false]
  by_cases h : 0 < r.Cond_None.length
  · have e : decide ((0 : Int) < (r.Cond_None.length : Int)) = true := by simp; omega
    rw [e]
    simp only [cond_true]
    have a := (three' r.Specs r.Specs r.Cond_Match r.Cond_None r.Cond_AnyMatch r.Cond_AnyNone r.Cond_Since c.Since r.Cond_Unless r.Cond_Range_Text c.Range_Text r.Cond_Range_Weak c.Range_Weak m true (by simp [sameS, h]))
    have b := (four' r.Specs r.Specs r.Cond_Match r.Cond_None c.None r.Cond_AnyMatch r.Cond_AnyNone c.AnyNone r.Cond_Since c.Since r.Cond_Unless r.Cond_Range_Text c.Range_Text r.Cond_Range_Weak c.Range_Weak m true)
    rw [a, b]
    simp
  · have e : decide ((0 : Int) < (r.Cond_None.length : Int)) = false := decide_eq_false (by omega)
    rw [e]
    simp only [cond_false]
    cases ha : r.Cond_AnyNone with
    | true =>
      simp only [cond_true]
      have a := (three' r.Specs r.Specs r.Cond_Match r.Cond_None r.Cond_AnyMatch true r.Cond_Since c.Since r.Cond_Unless r.Cond_Range_Text c.Range_Text r.Cond_Range_Weak c.Range_Weak m true (by simp [sameS]))
      have b := (four' r.Specs r.Specs r.Cond_Match r.Cond_None c.None r.Cond_AnyMatch true c.AnyNone r.Cond_Since c.Since r.Cond_Unless r.Cond_Range_Text c.Range_Text r.Cond_Range_Weak c.Range_Weak m true)
      rw [a, b]
      simp
    | false =>
      simp only [cond_false]
      have b := (four' r.Specs r.Specs r.Cond_Match r.Cond_None c.None r.Cond_AnyMatch false c.AnyNone r.Cond_Since c.Since r.Cond_Unless r.Cond_Range_Text c.Range_Text r.Cond_Range_Weak c.Range_Weak m true)
      rw [b]
      simp

theorem strong_same {t s : api_Tag} (ht : tagOK t.Text = true) (hs : tagOK s.Text = true) : strongS s t = (t.Text == s.Text && (!t.Weak && !s.Weak)) := by
  rw [strongS_comm]; simp [strongS, weakS, ht, hs]

theorem law_CondStrict (t s : api_Tag) (sp : List api_Spec) (ht : t.wf) (hs : s.wf) : mandolinelaw08_CondStrict.f t s sp = some true := by
  unfold mandolinelaw08_CondStrict.f
  rw [awake_eq, cond_None_eq, ref_Right_eq t ht, ref_Right_eq s hs]
  have hm : (tagM ⟨s.Text, s.Weak, -1, 9, 0, 0, 0, 0, [], [], false⟩).wf := hs
  simp only [bd, chk (h1 := tagsWf_nil) (h2 := tagsWf_nil) (ht := hm) (hr := ht), chk (t := []) (h1 := tagsWf_one ht) (h2 := tagsWf_nil) (ht := hm) (hr := Nat.zero_le _)]
  cases h1 : tagOK t.Text <;> simp only [cond_true, cond_false]
  cases h2 : tagOK s.Text <;> simp only [cond_true, cond_false]
  cases decide ((200 : Int) < (t.Text.length : Int)) <;> simp only [cond_true, cond_false]
  cases decide ((200 : Int) < (s.Text.length : Int)) <;> simp only [cond_true, cond_false]
  cases decide ((70 : Int) < (sp.length : Int)) <;> simp only [cond_true, cond_false]
  cases h3 : decide ((sp.length : Int) = 0) <;> simp only [cond_true, cond_false]
  have h4 : 0 < sp.length := by
    simp only [decide_eq_false_iff_not] at h3; omega
  have e : strongS s t = (t.Text == s.Text && (!t.Weak && !s.Weak)) := strong_same h1 h2
  have ne : (t.Text == []) = false := by
    cases h : t.Text with
    | nil => rw [h] at h1; simp [tagOK] at h1
    | cons => rfl
  have c1 : checkS sp [] [] false false (-1) (-1) t.Text t.Weak ⟨s.Text, s.Weak, -1, 9, 0, 0, 0, 0, [], [], false⟩ true = if strongS s t = true then 1 else 2 := by
    simp only [checkS, failedS, sameS, partS, h4, tagM, if_true, ne, Bool.false_and, Bool.false_eq_true, if_false]
    simp
    rfl
  have c2 : checkS sp [t] [] false false (-1) (-1) [] false ⟨s.Text, s.Weak, -1, 9, 0, 0, 0, 0, [], [], false⟩ true = if strongS s t = true then 1 else 4 := by
    rw [strongS_comm s t]
    simp [checkS, failedS, sameS, partS, h4, tagM, oneS]
    cases strongS t s <;> rfl
  rw [c1, c2, e]
  cases (t.Text == s.Text) <;> cases t.Weak <;> cases s.Weak <;> simp
end Go.Proofs.Ytchlkbnjamgihaa
