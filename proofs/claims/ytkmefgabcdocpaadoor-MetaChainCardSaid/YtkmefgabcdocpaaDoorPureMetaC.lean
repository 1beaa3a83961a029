/-
  What a version may be, whether it joins, follows another one, is the same: the document's answers are the program's. Its conditions: sizes of texts.
-/
import Derived.Test.YtkmefgabcdocpaaDoorPureMetaB
namespace Go.Proofs.YtkmefgabcdocpaaDoor
open Go Go.Den
set_option linter.unusedSimpArgs false
set_option linter.unusedVariables false

def restS (m : api_Meta) : Bool :=
  decide (-1 ≤ m.Modified) && (decide (m.Modified ≤ 253402300799) && (withinS m.Length (-1) && (withinS m.Have 0 && ((!decide (0 ≤ m.Length) || decide (m.Have = m.Length)) &&
  (withinS m.Fresh 0 && (withinS m.While 0 && (withinS m.Error 0 && (keysS m.Keys && tenS m.Tenant))))))))

theorem lt_not (a b : Int) : decide (a < b) = !decide (b ≤ a) := by rw [← decide_not]; exact decide_eq_decide.2 (by omega)

theorem rest_bool (b2 b3 p4 q4 p5 q5 b6 b7 p8 q8 p9 q9 p10 q10 bk bt : Bool) :
    (bif !b2 then some false else bif !b3 then some false else bif !p4 then some false else bif !q4 then some false else bif !p5 then some false else bif !q5 then some false else
      bif b6 then (bif b7 then (bif !p8 then some false else bif !q8 then some false else bif !p9 then some false else bif !q9 then some false else bif !p10 then some false else bif !q10 then some false else
        (some bk).bind fun x55 => bif x55 then (some bt).bind fun x59 => some x59 else some false) else some false)
      else (bif !p8 then some false else bif !q8 then some false else bif !p9 then some false else bif !q9 then some false else bif !p10 then some false else bif !q10 then some false else
        (some bk).bind fun x55 => bif x55 then (some bt).bind fun x59 => some x59 else some false)) =
    some (b2 && (b3 && ((p4 && q4) && ((p5 && q5) && ((!b6 || b7) && ((p8 && q8) && ((p9 && q9) && ((p10 && q10) && (bk && bt))))))))) := by
  cases b2
  · rfl
  cases b3
  · rfl
  cases p4
  · rfl
  cases q4
  · rfl
  cases p5
  · rfl
  cases q5
  · rfl
  cases b6 <;> cases b7 <;> (try rfl) <;> cases p8 <;> (try rfl) <;> cases q8 <;> (try rfl) <;> cases p9 <;> (try rfl) <;> cases q9 <;> (try rfl) <;> cases p10 <;> (try rfl) <;> cases q10 <;> (try rfl) <;> cases bk <;> cases bt <;> rfl

theorem ref_rest0 (m : api_Meta) (hk : m.Keys.length ≤ maxLen ∧ ∀ y ∈ m.Keys, y.length ≤ maxLen) (hn : m.Tenant.length ≤ maxLen) : mandolineref14_Right.a0 m .x0 = some (restS m) := by
  unfold mandolineref14_Right.a0
  simp only [ref_keys_eq m.Keys hk.1 hk.2, ref_Tenant_eq m.Tenant hn, lt_not]
  exact rest_bool _ _ _ _ _ _ _ _ _ _ _ _ _ _ _ _
theorem ref_rest1 (m : api_Meta) (hk : m.Keys.length ≤ maxLen ∧ ∀ y ∈ m.Keys, y.length ≤ maxLen) (hn : m.Tenant.length ≤ maxLen) : mandolineref14_Right.a1 m .x0 = some (restS m) := by
  unfold mandolineref14_Right.a1
  simp only [ref_keys_eq m.Keys hk.1 hk.2, ref_Tenant_eq m.Tenant hn, lt_not]
  exact rest_bool _ _ _ _ _ _ _ _ _ _ _ _ _ _ _ _

theorem ref_Right14_eq (m : api_Meta) (hm : m.wf) : mandolineref14_Right.f m = some (rightS m) := by
  unfold api_Meta.wf at hm
  obtain ⟨ht, _, _, _, _, _, _, hk, hn⟩ := hm
  have hlow : ∀ (x : UInt8), decide ((126 : Int) < (x.toNat : Int)) = !low x := fun x => by
    unfold low; rw [Bool.not_not]; exact decide_eq_decide.2 (by omega)
  have e0 : loopL (mandolineref14_Right.l0B m) 0 = some (if m.Tag_Text.all low = true then mandolineref14_Right.l0X.x0 else .ret) := by
    rw [← find_all]
    refine loop_find (l := m.Tag_Text) _ _ ht (fun n x hn hx hw => ?_) ?_
    · have h1 : decide ((n : Int) < (m.Tag_Text.length : Int)) = true := by simp; omega
      simp only [mandolineref14_Right.l0B, idx_nat, hx, bd, hw, h1, hlow, cond_true]
      cases low x <;> rfl
    · simp [mandolineref14_Right.l0B]
  have e1 : loopL (mandolineref14_Right.l1B m) 0 = some (if m.Tag_Text.all low = true then mandolineref14_Right.l1X.x0 else .ret) := by
    rw [← find_all]
    refine loop_find (l := m.Tag_Text) _ _ ht (fun n x hn hx hw => ?_) ?_
    · have h1 : decide ((n : Int) < (m.Tag_Text.length : Int)) = true := by simp; omega
      simp only [mandolineref14_Right.l1B, idx_nat, hx, bd, hw, h1, hlow, cond_true]
      cases low x <;> rfl
    · simp [mandolineref14_Right.l1B]
  have en : mandolineref14_none.f ⟨m.Tag_Text, m.Tag_Weak⟩ = some (m.Tag_Text == [] && !m.Tag_Weak) := by
    unfold mandolineref14_none.f
    simp only []
    cases (m.Tag_Text == []) <;> rfl
  have er : rightS m = (((m.Tag_Text == [] && !m.Tag_Weak) || (tagOK m.Tag_Text && m.Tag_Text.all low)) && restS m) := rfl
  unfold mandolineref14_Right.f
  rw [en, ref_Right_eq ⟨m.Tag_Text, m.Tag_Weak⟩ ht, e0, e1, er]
  simp only [bd]
  cases hn0 : (m.Tag_Text == [] && !m.Tag_Weak)
  · simp only [cond_false, Bool.false_or]
    cases tagOK m.Tag_Text
    · rfl
    · simp only [cond_true, Bool.true_and]
      cases m.Tag_Text.all low
      · rfl
      · simp only [if_true, Bool.true_and]; exact ref_rest0 m hk hn
  · have hnil : m.Tag_Text = [] := by
      simp only [Bool.and_eq_true, beq_iff_eq] at hn0; exact hn0.1
    have : m.Tag_Text.all low = true := by rw [hnil]; rfl
    simp only [cond_true, this, if_true, Bool.true_or, Bool.true_and]
    exact ref_rest1 m hk hn

def tagOf (m : api_Meta) : api_Tag := ⟨m.Tag_Text, m.Tag_Weak⟩
def joinsS (m : api_Meta) : Bool := tagOK m.Tag_Text && !m.Tag_Weak
theorem meta_Joins_eq (m : api_Meta) (hm : m.wf) : meta_Joins.f m = some (joinsS m) := by
  have ht : (tagOf m).wf := by unfold api_Meta.wf at hm; exact hm.1
  unfold meta_Joins.f joinsS
  rw [show tag_Right.f (api_Tag.mk m.Tag_Text m.Tag_Weak) = _ from tag_Right_eq (tagOf m) ht]
  show (some (tagOK m.Tag_Text)).bind _ = _
  cases tagOK m.Tag_Text <;> rfl
theorem ref_Joins_eq (m : api_Meta) (hm : m.wf) : mandolineref14_Joins.f m = some (joinsS m) := by
  have ht : (tagOf m).wf := by unfold api_Meta.wf at hm; exact hm.1
  unfold mandolineref14_Joins.f joinsS
  rw [show mandolineref05_Right.f (api_Tag.mk m.Tag_Text m.Tag_Weak) = _ from ref_Right_eq (tagOf m) ht]
  show (some (tagOK m.Tag_Text)).bind _ = _
  cases tagOK m.Tag_Text <;> rfl
def followsS (a b : api_Meta) : Bool := rightS a && (rightS b && (joinsS a && (strongS (tagOf a) (tagOf b) && (decide (a.Modified = b.Modified) && (if 0 ≤ a.Length then decide (a.Length = b.Length) else decide (a.Have ≤ b.Have))))))
theorem meta_Follows_eq (a b : api_Meta) (ha : a.wf) (hb : b.wf) : meta_Follows.f a b = some (followsS a b) := by
  have hta : (tagOf a).wf := by unfold api_Meta.wf at ha; exact ha.1
  have htb : (tagOf b).wf := by unfold api_Meta.wf at hb; exact hb.1
  unfold meta_Follows.f followsS
  rw [meta_Right_eq a ha, meta_Right_eq b hb, meta_Joins_eq a ha, show tag_Strong.f (api_Tag.mk a.Tag_Text a.Tag_Weak) (api_Tag.mk b.Tag_Text b.Tag_Weak) = _ from tag_Strong_eq (tagOf a) (tagOf b) hta htb]
  cases rightS a <;> (try rfl) <;> cases rightS b <;> (try rfl) <;> cases joinsS a <;> (try rfl) <;> cases strongS (tagOf a) (tagOf b) <;> (try rfl) <;> cases decide (a.Modified = b.Modified) <;> (try rfl)
  by_cases h : 0 ≤ a.Length <;> simp [h]
theorem ref_Follows_eq (a b : api_Meta) (ha : a.wf) (hb : b.wf) : mandolineref14_Follows.f a b = some (followsS a b) := by
  have hta : (tagOf a).wf := by unfold api_Meta.wf at ha; exact ha.1
  have htb : (tagOf b).wf := by unfold api_Meta.wf at hb; exact hb.1
  unfold mandolineref14_Follows.f followsS
  rw [ref_Right14_eq a ha, ref_Right14_eq b hb, ref_Joins_eq a ha, show mandolineref05_Strong.f (api_Tag.mk a.Tag_Text a.Tag_Weak) (api_Tag.mk b.Tag_Text b.Tag_Weak) = _ from ref_Strong_eq (tagOf a) (tagOf b) hta htb]
  cases rightS a <;> (try rfl) <;> cases rightS b <;> (try rfl) <;> cases joinsS a <;> (try rfl) <;> cases strongS (tagOf a) (tagOf b) <;> (try rfl) <;> cases decide (a.Modified = b.Modified) <;> (try rfl)
  by_cases h : 0 ≤ a.Length <;> simp [h]

theorem small_some (m : api_Meta) (hm : m.wf) : ∃ b, mandolineref14_Small.f m = some b := by
  unfold api_Meta.wf at hm
  obtain ⟨ht, _, _, _, _, _, _, hk, hn⟩ := hm
  unfold mandolineref14_Small.f
  have e : loopL (mandolineref14_Small.l0B m) 0 = some ((m.Keys.findSome? fun x => bif decide ((300 : Int) < (x.length : Int)) then some mandolineref14_Small.l0X.ret else none).getD .x0) := by
    refine loop_find (l := m.Keys) _ _ hk.1 (fun n x hn hx hw => ?_) ?_
    · have h1 : decide ((n : Int) < (m.Keys.length : Int)) = true := by simp; omega
      simp only [mandolineref14_Small.l0B, idx_nat, hx, bd, hw, h1, cond_true]
      cases decide ((300 : Int) < (x.length : Int)) <;> rfl
    · simp [mandolineref14_Small.l0B]
  rw [e]
  generalize Option.getD _ _ = q
  cases decide ((200 : Int) < (m.Tag_Text.length : Int)) <;> cases decide ((40 : Int) < (m.Keys.length : Int)) <;> cases decide ((100 : Int) < (m.Tenant.length : Int)) <;> cases q <;> exact ⟨_, rfl⟩

/-- Lists that are alike, place by place. -/
theorem all_same : ∀ (a b : List KT), a.length = b.length → ((a.zip b).all fun p => p.1 == p.2) = (a == b)
  | [], [], _ => rfl
  | x :: r, y :: t, h => by
    simp only [List.zip_cons_cons, List.all_cons]
    rw [all_same r t (by simpa using h)]; rfl
  | [], _ :: _, h => by cases h
  | _ :: _, [], h => by cases h
theorem same_loop {E : Type} {a b : List KT} (h : a.length = b.length) (hl : a.length ≤ maxLen) {body : Int → Option (Step Int E)} (x0 ret : E)
    (hb : ∀ (n : Nat) x y, n < a.length → a[n]? = some x → b[n]? = some y → IntKind.i64.wrap ((n : Int) + 1) = ((n + 1 : Nat) : Int) → body n = bif x == y then some (.next ((n + 1 : Nat) : Int)) else some (.done ret))
    (he : body a.length = some (.done x0)) : loopL body 0 = some (bif a == b then x0 else ret) := by
  have hz : (a.zip b).length = a.length := by simp [h]
  have e : loopL body 0 = some (if (a.zip b).all (fun p => p.1 == p.2) = true then x0 else ret) := by
    rw [← find_all]
    refine loop_find (l := a.zip b) _ _ (by rw [hz]; exact hl) (fun n p hn hp hw => ?_) (by rw [hz]; exact he)
    rw [List.getElem?_zip_eq_some] at hp
    rw [hb n p.1 p.2 (by rw [hz] at hn; exact hn) hp.1 hp.2 hw]
    cases p.1 == p.2 <;> rfl
  rw [e, all_same a b h]
  cases a == b <;> rfl
def sameS (a b : api_Meta) : Bool :=
  (a.Keys == b.Keys) && (((a.Tag_Text == b.Tag_Text) && (a.Tag_Weak == b.Tag_Weak)) && (decide (a.Modified = b.Modified) && (decide (a.Length = b.Length) && (decide (a.Have = b.Have) && (decide (a.Fresh = b.Fresh) && (decide (a.While = b.While) && (decide (a.Error = b.Error) && ((a.Tenant == b.Tenant) && (a.Keep == b.Keep)))))))))
theorem keys_ne {a b : List KT} (h : ¬ a.length = b.length) : (a == b) = false := by
  rw [beq_eq_false_iff_ne]; rintro rfl; exact h rfl
theorem len_dec (a b : List KT) : decide ((a.length : Int) = (b.length : Int)) = decide (a.length = b.length) := decide_eq_decide.2 (by omega)
theorem slices_Equal_eq (a b : List KT) (hl : a.length ≤ maxLen) : slices_Equal_string_string.f a b = some (a == b) := by
  unfold slices_Equal_string_string.f
  rw [len_dec]
  by_cases h : a.length = b.length
  · have e : loopL (slices_Equal_string_string.l0B a b) 0 = some (bif a == b then slices_Equal_string_string.l0X.x0 else .ret) := by
      refine same_loop h hl _ _ (fun n x y hn hx hy hw => ?_) (by simp [slices_Equal_string_string.l0B])
      have h1 : decide ((n : Int) < (a.length : Int)) = true := by simp; omega
      simp only [slices_Equal_string_string.l0B, idx_nat, hx, hy, bd, hw, h1, cond_true]
    rw [e, decide_eq_true h]
    cases a == b <;> rfl
  · rw [decide_eq_false h, keys_ne h]; rfl
theorem meta_Same_eq (a b : api_Meta) (ha : a.wf) : meta_Same.f a b = some (sameS a b) := by
  unfold api_Meta.wf at ha
  unfold meta_Same.f sameS
  rw [slices_Equal_eq a.Keys b.Keys ha.2.2.2.2.2.2.2.1.1]
  cases a.Keys == b.Keys <;> (try rfl) <;> cases (a.Tag_Text == b.Tag_Text) && (a.Tag_Weak == b.Tag_Weak) <;> (try rfl) <;> cases decide (a.Modified = b.Modified) <;> (try rfl) <;> cases decide (a.Length = b.Length) <;> (try rfl) <;>
    cases decide (a.Have = b.Have) <;> (try rfl) <;> cases decide (a.Fresh = b.Fresh) <;> (try rfl) <;> cases decide (a.While = b.While) <;> (try rfl) <;> cases decide (a.Error = b.Error) <;> (try rfl) <;> cases a.Tenant == b.Tenant <;> rfl
theorem ref_Same_eq (a b : api_Meta) (ha : a.wf) : mandolineref14_Same.f a b = some (sameS a b) := by
  unfold api_Meta.wf at ha
  have hl := ha.2.2.2.2.2.2.2.1.1
  have hc : (bif decide ((a.Keys.length : Int) = (b.Keys.length : Int)) then (loopL (mandolineref14_Same.l0B a b) 0).bind mandolineref14_Same.a0 else some false) = some (a.Keys == b.Keys) := by
    rw [len_dec]
    by_cases h : a.Keys.length = b.Keys.length
    · have e : loopL (mandolineref14_Same.l0B a b) 0 = some (bif a.Keys == b.Keys then mandolineref14_Same.l0X.x0 else .ret) := by
        refine same_loop h hl _ _ (fun n x y hn hx hy hw => ?_) (by simp [mandolineref14_Same.l0B])
        have h1 : decide ((n : Int) < (a.Keys.length : Int)) = true := by simp; omega
        simp only [mandolineref14_Same.l0B, idx_nat, hx, hy, bd, hw, h1, cond_true]
      rw [e, decide_eq_true h]
      cases a.Keys == b.Keys <;> rfl
    · rw [decide_eq_false h, keys_ne h]; rfl
  unfold mandolineref14_Same.f sameS
  rw [hc]
  cases a.Keys == b.Keys <;> cases (a.Tag_Text == b.Tag_Text) && (a.Tag_Weak == b.Tag_Weak) <;> (try rfl) <;> cases decide (a.Modified = b.Modified) <;> (try rfl) <;> cases decide (a.Length = b.Length) <;> (try rfl) <;>
    cases decide (a.Have = b.Have) <;> (try rfl) <;> cases decide (a.Fresh = b.Fresh) <;> (try rfl) <;> cases decide (a.While = b.While) <;> (try rfl) <;> cases decide (a.Error = b.Error) <;> (try rfl) <;> cases a.Tenant == b.Tenant <;> (try rfl) <;> cases a.Keep == b.Keep <;> rfl
end Go.Proofs.YtkmefgabcdocpaaDoor
