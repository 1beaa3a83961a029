/-
  Tags, told plainly: the program's answers and the document's are one. Its conditions: sizes of texts and lists.
-/
import Derived.Test.YtkmefgabcdocpaaDoorPAll
import Derived.Test.YtkmefgabcdocpaaDoorDenPure
namespace Go.Proofs.YtkmefgabcdocpaaDoor
open Go Go.Den

def okC (c : UInt8) : Bool := decide ((c.toNat : Int) = 33) || (!decide ((c.toNat : Int) < 35) && !decide ((126 : Int) < (c.toNat : Int)))
def tagOK (s : List UInt8) : Bool := s.all okC && (decide (0 < s.length) && decide (s.length ≤ 100))

theorem find_all {α E : Type} (p : α → Bool) (a b : E) (l : List α) : ((l.findSome? fun x => if p x = true then none else some b).getD a) = if l.all p = true then a else b := by
  induction l with
  | nil => rfl
  | cons x r ih =>
    simp only [List.findSome?_cons, List.all_cons]
    by_cases h : p x = true
    · simp only [h, if_true, Bool.true_and]; exact ih
    · simp [h]

theorem tag_Right_eq (t : api_Tag) (h : t.wf) : tag_Right.f t = some (tagOK t.Text) := by
  have h : t.Text.length ≤ maxLen := h
  unfold tag_Right.f
  have e : loopL (tag_Right.l0B t) 0 = some (if t.Text.all okC = true then tag_Right.l0X.x0 else tag_Right.l0X.ret) := by
    rw [← find_all]
    refine loop_find (l := t.Text) _ _ h (fun n x hn hx hw => ?_) ?_
    · have h1 : decide ((n : Int) < (t.Text.length : Int)) = true := by simp; omega
      simp only [tag_Right.l0B, idx_nat, hx, bd, hw, h1]
      unfold okC
      cases decide ((x.toNat : Int) = 33) <;> cases decide ((x.toNat : Int) < 35) <;> cases decide ((126 : Int) < (x.toNat : Int)) <;> rfl
    · simp [tag_Right.l0B]
  rw [e]
  unfold tagOK
  by_cases h1 : t.Text.all okC = true
  · simp only [h1, if_true, bd, tag_Right.a0, Bool.true_and]
    have e1 : decide ((0 : Int) < (t.Text.length : Int)) = decide (0 < t.Text.length) := by simp
    have e2 : decide ((t.Text.length : Int) ≤ 100) = decide (t.Text.length ≤ 100) := by simp; omega
    rw [e1, e2]
    cases decide (0 < t.Text.length) <;> rfl
  · simp [h1, tag_Right.a0]

theorem ref_Right_eq (t : api_Tag) (h : t.wf) : mandolineref05_Right.f t = some (tagOK t.Text) := by
  have h : t.Text.length ≤ maxLen := h
  unfold mandolineref05_Right.f
  have e : loopL (mandolineref05_Right.l0B t) 0 = some (if t.Text.all okC = true then mandolineref05_Right.l0X.x0 else mandolineref05_Right.l0X.ret) := by
    rw [← find_all]
    refine loop_find (l := t.Text) _ _ h (fun n x hn hx hw => ?_) ?_
    · have h1 : decide ((n : Int) < (t.Text.length : Int)) = true := by simp; omega
      simp only [mandolineref05_Right.l0B, idx_nat, hx, bd, hw, h1]
      unfold okC
      by_cases h1 : (x.toNat : Int) = 33
      · simp [h1]
      · by_cases h2 : (x.toNat : Int) < 33
        · have : (x.toNat : Int) < 35 := by omega
          simp [h1, h2, this]
        · by_cases h3 : (x.toNat : Int) = 34
          · simp [h3]
          · have : ¬ (x.toNat : Int) < 35 := by omega
            by_cases h4 : (126 : Int) < (x.toNat : Int) <;> simp [h1, h2, h3, this, h4]
    · simp [mandolineref05_Right.l0B]
  rw [e]
  unfold tagOK
  by_cases h1 : (t.Text.length : Int) < 1
  · have : ¬ 0 < t.Text.length := by omega
    simp [h1]
    have : t.Text.length = 0 := by omega
    simp at this
    simp [this]
  · by_cases h2 : (100 : Int) < (t.Text.length : Int)
    · have : ¬ t.Text.length ≤ 100 := by omega
      simp [h2, this]
    · have h3 : 0 < t.Text.length := by omega
      have h4 : t.Text.length ≤ 100 := by omega
      cases h5 : t.Text.all okC <;> simp [h1, h2, h4, mandolineref05_Right.a0]
      exact h3

def weakS (x t : api_Tag) : Bool := tagOK x.Text && (tagOK t.Text && x.Text == t.Text)
def strongS (x t : api_Tag) : Bool := weakS x t && (!x.Weak && !t.Weak)
theorem tag_Weak_eq (x t : api_Tag) (hx : x.wf) (ht : t.wf) : tag_Weak.f x t = some (weakS x t) := by
  unfold tag_Weak.f weakS
  rw [tag_Right_eq x hx, tag_Right_eq t ht]
  cases tagOK x.Text <;> cases tagOK t.Text <;> rfl
theorem ref_Weak_eq (x t : api_Tag) (hx : x.wf) (ht : t.wf) : mandolineref05_Weak.f x t = some (weakS x t) := by
  unfold mandolineref05_Weak.f weakS
  rw [ref_Right_eq x hx, ref_Right_eq t ht]
  cases tagOK x.Text <;> cases tagOK t.Text <;> rfl
theorem tag_Strong_eq (x t : api_Tag) (hx : x.wf) (ht : t.wf) : tag_Strong.f x t = some (strongS x t) := by
  unfold tag_Strong.f strongS
  rw [tag_Weak_eq x t hx ht]
  cases weakS x t <;> cases x.Weak <;> rfl
theorem ref_Strong_eq (x t : api_Tag) (hx : x.wf) (ht : t.wf) : mandolineref05_Strong.f x t = some (strongS x t) := by
  unfold mandolineref05_Strong.f strongS
  rw [ref_Weak_eq x t hx ht]
  cases weakS x t <;> cases x.Weak <;> rfl
theorem weakS_comm (x t : api_Tag) : weakS x t = weakS t x := by
  unfold weakS
  have : (x.Text == t.Text) = (t.Text == x.Text) := by
    rw [Bool.eq_iff_iff, beq_iff_eq, beq_iff_eq]; exact ⟨Eq.symm, Eq.symm⟩
  rw [this]
  cases tagOK x.Text <;> cases tagOK t.Text <;> rfl
theorem strongS_comm (x t : api_Tag) : strongS x t = strongS t x := by
  unfold strongS
  rw [weakS_comm]
  cases x.Weak <;> cases t.Weak <;> rfl
end Go.Proofs.YtkmefgabcdocpaaDoor
