/-
  Tags, told plainly: the program's answers and the document's are one. Its conditions: sizes of texts and lists.
-/
import Derived.Test.YtchlkbnjamgihaaDoorPAll
import Derived.Test.YtchlkbnjamgihaaDoorDenPure
namespace Go.Proofs.YtchlkbnjamgihaaDoor
open Go Go.Den

def okC (c : UInt8) : Bool := decide ((c.toNat : Int) = 33) || (!decide ((c.toNat : Int) < 35) && !decide ((126 : Int) < (c.toNat : Int)))
def tagOK (s : List UInt8) : Bool := s.all okC && (decide (0 < s.length) && decide (s.length ≤ 100))

theorem find_all {α E : Type} (p : α → Bool) (a b : E) (l : List α) : ((l.findSome? fun x => if p x = true then none else some b).getD a) = if l.all p = true then a else b := by
  induction l with
  | nil => rfl
  | cons x r ih =>
    simp only [List.findSome?_cons, List.all_cons]
    by_cases h : p x = true
    · simp only [h, if_true, Bool.true_and]; exact ih
    · simp [h]

theorem tag_Right_eq (t : api_Tag) (h : t.wf) : tag_Right.f t = some (tagOK t.Text) := by
  have h : t.Text.length ≤ maxLen := h
  unfold tag_Right.f
  have e : loopL (tag_Right.l0B t) 0 = some (if t.Text.all okC = true then tag_Right.l0X.x0 else tag_Right.l0X.ret) := by
    rw [← find_all]
    refine loop_find (l := t.Text) _ _ h (fun n x hn hx hw => ?_) ?_
    · have h1 : decide ((n : Int) < (t.Text.length : Int)) = true := by simp; omega
      simp only [tag_Right.l0B, idx_nat, hx, bd, hw, h1]
      unfold okC
      cases decide ((x.toNat : Int) = 33) <;> cases decide ((x.toNat : Int) < 35) <;> cases decide ((126 : Int) < (x.toNat : Int)) <;> rfl
    · simp [tag_Right.l0B]
  rw [e]
  unfold tagOK
  by_cases h1 : t.Text.all okC = true
  · simp only [h1, if_true, bd, tag_Right.a0, Bool.true_and]
    have e1 : decide ((0 : Int) < (t.Text.length : Int)) = decide (0 < t.Text.length) := by simp
    have e2 : decide ((t.Text.length : Int) ≤ 100) = decide (t.Text.length ≤ 100) := by simp; omega
    rw [e1, e2]
    cases decide (0 < t.Text.length) <;> rfl
  · simp [h1, tag_Right.a0]

def weakS (x t : api_Tag) : Bool := tagOK x.Text && (tagOK t.Text && x.Text == t.Text)
def strongS (x t : api_Tag) : Bool := weakS x t && (!x.Weak && !t.Weak)
theorem tag_Weak_eq (x t : api_Tag) (hx : x.wf) (ht : t.wf) : tag_Weak.f x t = some (weakS x t) := by
  unfold tag_Weak.f weakS
  rw [tag_Right_eq x hx, tag_Right_eq t ht]
  cases tagOK x.Text <;> cases tagOK t.Text <;> rfl
theorem tag_Strong_eq (x t : api_Tag) (hx : x.wf) (ht : t.wf) : tag_Strong.f x t = some (strongS x t) := by
  unfold tag_Strong.f strongS
  rw [tag_Weak_eq x t hx ht]
  cases weakS x t <;> cases x.Weak <;> rfl
def oneS (l : List api_Tag) (t : api_Tag) (s : Bool) : Bool := l.any fun x => if s = true then strongS x t else weakS x t

theorem find_ge {α E : Type} (p : α → Bool) (g : Nat → E) (l : List α) (k : Nat) : ∀ e0, (∃ j, foldE (fun (n : Nat) x => if p x = true then .inl (g n) else .inr (n + 1)) (fun _ => e0) l k = g j ∧ l.any p = true) ∨ (foldE (fun (n : Nat) x => if p x = true then .inl (g n) else .inr (n + 1)) (fun _ => e0) l k = e0 ∧ l.any p = false) := by
  intro e0
  induction l generalizing k with
  | nil => exact .inr ⟨rfl, rfl⟩
  | cons x r ih =>
    simp only [foldE, List.any_cons]
    cases h : p x with
    | true => exact .inl ⟨k, by simp⟩
    | false => simpa using ih (k + 1)

theorem tag_In_eq (l : List api_Tag) (t : api_Tag) (s : Bool) (hl : l.length ≤ maxLen) (hw : ∀ x ∈ l, x.wf) (ht : t.wf) : tag_In.f l t s = some (oneS l t s) := by
  unfold tag_In.f
  cases s with
  | true =>
    have e : loopL (tag_In.l1B l t) 0 = some (foldE (fun (n : Nat) x => if strongS x t = true then .inl (tag_In.l1X.ret n) else .inr (n + 1)) (fun _ => tag_In.l1X.x0) l 0) := by
      refine loop_list0 l (fun (_ : Nat) n => (n : Int)) _ _ (fun n s => n = s) (fun n u x hn hu hx => ?_) (fun u hu => ?_) rfl rfl
      · subst hu
        have hxw := hw x (List.mem_of_getElem? hx)
        have h1 : decide ((n : Int) < (l.length : Int)) = true := by simp; omega
        simp only [tag_In.l1B, idx_nat, hx, bd, h1, wrap_succ (show n < 9223372036854775807 by unfold maxLen at hl; omega), tag_Strong_eq x t hxw ht]
        cases strongS x t <;> simp
      · simp [tag_In.l1B]
    simp only [e, bd, oneS, if_true]
    rcases find_ge (fun x => strongS x t) (fun n => tag_In.l1X.ret (n : Int)) l 0 .x0 with ⟨j, h1, h2⟩ | ⟨h1, h2⟩
    · rw [h1, h2]; simp [tag_In.a1]
    · rw [h1, h2]; rfl
  | false =>
    have e : loopL (tag_In.l0B l t) 0 = some (foldE (fun (n : Nat) x => if weakS x t = true then .inl (tag_In.l0X.ret n) else .inr (n + 1)) (fun _ => tag_In.l0X.x0) l 0) := by
      refine loop_list0 l (fun (_ : Nat) n => (n : Int)) _ _ (fun n s => n = s) (fun n u x hn hu hx => ?_) (fun u hu => ?_) rfl rfl
      · subst hu
        have hxw := hw x (List.mem_of_getElem? hx)
        have h1 : decide ((n : Int) < (l.length : Int)) = true := by simp; omega
        simp only [tag_In.l0B, idx_nat, hx, bd, h1, wrap_succ (show n < 9223372036854775807 by unfold maxLen at hl; omega), tag_Weak_eq x t hxw ht]
        cases weakS x t <;> simp
      · simp [tag_In.l0B]
    simp only [e, bd, oneS, Bool.false_eq_true, if_false]
    rcases find_ge (fun x => weakS x t) (fun n => tag_In.l0X.ret (n : Int)) l 0 .x0 with ⟨j, h1, h2⟩ | ⟨h1, h2⟩
    · rw [h1, h2]; simp [tag_In.a0]
    · rw [h1, h2]; rfl
end Go.Proofs.YtchlkbnjamgihaaDoor
