/-
  Keys, tenants and tags of a version, told plainly: the program's answers and the document's are one. Its conditions: sizes of texts.
-/
import Derived.Test.YtkmefgabcdocpaaDoorPureTagA
import Derived.Test.YtkmefgabcdocpaaDoorPureRune
namespace Go.Proofs.YtkmefgabcdocpaaDoor
open Go Go.Den
set_option linter.unusedSimpArgs false
set_option linter.unusedVariables false

def low (b : UInt8) : Bool := !decide (126 < b.toNat)
def keyC (b : UInt8) : Bool := !(decide (b.toNat < 33) || decide (126 < b.toNat))
def keyS (s : List UInt8) : Bool := s.all keyC && (decide (0 < s.length) && decide (s.length ≤ 200))
def tenC (b : UInt8) : Bool := (decide (97 ≤ b.toNat) && decide (b.toNat ≤ 122)) || ((decide (65 ≤ b.toNat) && decide (b.toNat ≤ 90)) || ((decide (48 ≤ b.toNat) && decide (b.toNat ≤ 57)) || (decide (b.toNat = 45) || decide (b.toNat = 95))))
def tenS (s : List UInt8) : Bool := decide (s.length ≤ 40) && (s.all tenC && !(s.head? == some 45))
def tagS (t : api_Tag) : Bool := (t.Text == [] && !t.Weak) || (tagOK t.Text && t.Text.all low)

theorem meta_tagged_eq (t : api_Tag) (h : t.wf) : meta_tagged.f t = some (tagS t) := by
  unfold meta_tagged.f tagS
  rw [tag_Right_eq t h]
  have hl := loop_rune0 (s := t.Text) (body := meta_tagged.l0B t) (fun c => decide (126 < c)) (fun n => meta_tagged.l0X.ret (n : Int)) .x0 (fun c hc _ => by simp; omega)
    (fun n hn => by
      have h1 : decide (n < t.Text.length) = true := by simpa using hn
      simp only [meta_tagged.l0B, Int.toNat_natCast, h1, cond_true]
      by_cases hc : 126 < (runeAt t.Text n).1
      · have : (126 : Int) < ((runeAt t.Text n).1 : Int) := by omega
        simp [hc, this]
      · have : ¬ (126 : Int) < ((runeAt t.Text n).1 : Int) := by omega
        simp [hc, this])
    (by simp [meta_tagged.l0B])
  have e2 : (t.Text == [] && !t.Weak) = (t.Text == [] && t.Weak == false) := by cases t.Weak <;> rfl
  rcases hl with ⟨h1, h2⟩ | ⟨k, h1, h2⟩
  · simp only [h1, bd, meta_tagged.a0]
    have : t.Text.all low = true := h2
    rw [this]
    generalize (t.Text == []) = q
    cases q <;> cases t.Weak <;> cases tagOK t.Text <;> rfl
  · simp only [h1, bd, meta_tagged.a0]
    have : t.Text.all low = false := h2
    rw [this]
    have hk : decide ((k : Int) < 0) = false := by simp
    rw [hk]
    generalize (t.Text == []) = q
    cases q <;> cases t.Weak <;> cases tagOK t.Text <;> rfl

theorem meta_key_eq (s : List UInt8) : meta_key.f s = some (keyS s) := by
  unfold meta_key.f keyS
  have hl := loop_rune0 (s := s) (body := meta_key.l0B s) (fun c => decide (c < 33) || decide (126 < c)) (fun n => meta_key.l0X.ret (n : Int)) .x0 (fun c hc _ => by simp; omega)
    (fun n hn => by
      have h1 : decide (n < s.length) = true := by simpa using hn
      simp only [meta_key.l0B, Int.toNat_natCast, h1, cond_true]
      by_cases hd : (runeAt s n).1 < 33
      · have : ((runeAt s n).1 : Int) < 33 := by omega
        simp [hd, this]
      · have h3 : ¬ ((runeAt s n).1 : Int) < 33 := by omega
        by_cases hc : 126 < (runeAt s n).1
        · have : (126 : Int) < ((runeAt s n).1 : Int) := by omega
          simp [hc, this, hd, h3]
        · have : ¬ (126 : Int) < ((runeAt s n).1 : Int) := by omega
          simp [hc, this, hd, h3])
    (by simp [meta_key.l0B])
  have e1 : (s == []) = !decide (0 < s.length) := by cases s <;> simp
  have e2 : decide ((s.length : Int) ≤ 200) = decide (s.length ≤ 200) := by simp; omega
  rw [e1, e2]
  rcases hl with ⟨h1, h2⟩ | ⟨k, h1, h2⟩
  · have : s.all keyC = true := h2
    simp only [h1, bd, meta_key.a0, this]
    cases decide (0 < s.length) <;> cases decide (s.length ≤ 200) <;> rfl
  · have : s.all keyC = false := h2
    have hk : decide ((k : Int) < 0) = false := by simp
    simp only [h1, bd, meta_key.a0, this, hk]
    cases decide (0 < s.length) <;> cases decide (s.length ≤ 200) <;> rfl

theorem ref_Key_eq (s : List UInt8) (h : s.length ≤ maxLen) : mandolineref14_Key.f s = some (keyS s) := by
  unfold mandolineref14_Key.f keyS
  have e : loopL (mandolineref14_Key.l0B s) 0 = some (if s.all keyC = true then mandolineref14_Key.l0X.x0 else mandolineref14_Key.l0X.ret) := by
    rw [← find_all]
    refine loop_find (l := s) _ _ h (fun n x hn hx hw => ?_) ?_
    · have h1 : decide ((n : Int) < (s.length : Int)) = true := by simp; omega
      simp only [mandolineref14_Key.l0B, idx_nat, hx, bd, hw, h1]
      unfold keyC
      by_cases h2 : x.toNat < 33
      · have : (x.toNat : Int) < 33 := by omega
        simp [h2, this]
      · have h3 : ¬ (x.toNat : Int) < 33 := by omega
        by_cases h4 : 126 < x.toNat
        · have : (126 : Int) < (x.toNat : Int) := by omega
          simp [h2, h3, h4, this]
        · have : ¬ (126 : Int) < (x.toNat : Int) := by omega
          simp [h2, h3, h4, this]
    · simp [mandolineref14_Key.l0B]
  rw [e]
  have e1 : decide ((0 : Int) < (s.length : Int)) = decide (0 < s.length) := by simp
  have e2 : decide ((s.length : Int) ≤ 200) = decide (s.length ≤ 200) := by simp; omega
  cases s.all keyC
  · rfl
  · simp only [if_true, bd, mandolineref14_Key.a0, e1, e2]
    cases decide (0 < s.length) <;> cases decide (s.length ≤ 200) <;> rfl

/-- A letter's case struck: the bit of 32 set. -/
def lowC (c : Int) : Int := IntKind.i32.wrap ((BitVec.ofInt IntKind.i32.bits c ||| BitVec.ofInt IntKind.i32.bits 32).toNat : Int)
def tenR (c : Nat) : Bool := (decide ((97 : Int) ≤ lowC c) && decide (lowC c ≤ 122)) || ((decide (48 ≤ c) && decide (c ≤ 57)) || (decide (c = 45) || decide (c = 95)))
theorem tenR_byte : ∀ b : Fin 256, tenR b.val = tenC (UInt8.ofNat b.val) := by decide +kernel
theorem lowC_high {c : Nat} (h : 128 ≤ c) (h2 : c ≤ 1114111) : (122 : Int) < lowC c := by
  have e : (BitVec.ofInt IntKind.i32.bits (c : Int) ||| BitVec.ofInt IntKind.i32.bits 32).toNat = c ||| 32 := by
    rw [BitVec.toNat_or]
    have e1 : (BitVec.ofInt IntKind.i32.bits (c : Int)).toNat = c := by
      simp only [IntKind.bits, BitVec.toNat_ofInt]; omega
    have e2 : (BitVec.ofInt IntKind.i32.bits 32).toNat = 32 := by decide
    rw [e1, e2]
  have l1 : c ≤ c ||| 32 := Nat.left_le_or
  have l2 : c ||| 32 < 2 ^ 21 := Nat.or_lt_two_pow (by omega) (by omega)
  unfold lowC
  rw [e]
  simp only [IntKind.wrap, IntKind.bits, IntKind.signed]
  simp
  omega

theorem ten_step {α : Type} (c : Nat) (A B : α) : (bif decide ((97 : Int) ≤ lowC c) then bif decide (lowC c ≤ 122) then B else (bif decide ((48 : Int) ≤ (c : Int)) then bif decide ((c : Int) ≤ 57) then B else bif decide ((c : Int) = 45) then B else bif decide ((c : Int) = 95) then B else A else bif decide ((c : Int) = 45) then B else bif decide ((c : Int) = 95) then B else A) else (bif decide ((48 : Int) ≤ (c : Int)) then bif decide ((c : Int) ≤ 57) then B else bif decide ((c : Int) = 45) then B else bif decide ((c : Int) = 95) then B else A else bif decide ((c : Int) = 45) then B else bif decide ((c : Int) = 95) then B else A)) = if (!tenR c) = true then A else B := by
  have q1 : decide ((48 : Int) ≤ (c : Int)) = decide (48 ≤ c) := by simp; omega
  have q2 : decide ((c : Int) ≤ 57) = decide (c ≤ 57) := by simp; omega
  have q3 : decide ((c : Int) = 45) = decide (c = 45) := by simp; omega
  have q4 : decide ((c : Int) = 95) = decide (c = 95) := by simp; omega
  rw [q1, q2, q3, q4]
  unfold tenR
  cases decide ((97 : Int) ≤ lowC c) <;> cases decide (lowC c ≤ 122) <;> cases decide (48 ≤ c) <;> cases decide (c ≤ 57) <;> cases decide (c = 45) <;> cases decide (c = 95) <;> rfl
theorem meta_tenant_eq (s : List UInt8) (hs : s.length ≤ maxLen) : meta_tenant.f s = some (tenS s) := by
  unfold meta_tenant.f tenS
  have hl := loop_rune0 (s := s) (body := meta_tenant.l0B s) (fun c => !tenR c) (fun n => meta_tenant.l0X.ret (n : Int)) .x0
    (fun c hc h2 => by
      have := lowC_high hc h2
      have h3 : ¬ lowC c ≤ 122 := by omega
      have h4 : ¬ c ≤ 57 := by omega
      have h5 : ¬ c = 45 := by omega
      have h6 : ¬ c = 95 := by omega
      simp [tenR, h3, h4, h5, h6])
    (fun n hn => by
      have h1 : decide (n < s.length) = true := by simpa using hn
      simp only [meta_tenant.l0B, Int.toNat_natCast, h1, cond_true]
      exact ten_step _ _ _)
    (by simp [meta_tenant.l0B])
  have e1 : decide ((s.length : Int) ≤ 40) = decide (s.length ≤ 40) := by simp; omega
  have e3 : s.all (fun b => !!tenR b.toNat) = s.all tenC := by
    congr 1; funext b
    have := tenR_byte ⟨b.toNat, b.toNat_lt⟩
    simp only [UInt8.ofNat_toNat] at this
    rw [← this]; simp
  have e4 : strings_HasPrefix.f s [45] = some (s.head? == some 45) := by
    unfold strings_HasPrefix.f stringslite_HasPrefix.f
    cases s with
    | nil => rfl
    | cons a r =>
      have : cut (a :: r) 0 1 = some [a] := by
        unfold cut; rw [if_pos ⟨by omega, by omega, by simp only [List.length_cons]; omega⟩]; rfl
      have h2 : decide ((([45] : List UInt8).length : Int) ≤ ((a :: r).length : Int)) = true := by
        apply decide_eq_true; simp only [List.length_cons, List.length_nil]; omega
      have h3 : (cut (a :: r) 0 (([45] : List UInt8).length : Int)) = some [a] := this
      rw [h2, h3]
      simp
  rw [e1]
  rcases hl with ⟨h1, h2⟩ | ⟨k, h1, h2⟩
  · rw [e3] at h2
    simp only [h1, bd, meta_tenant.a0, e4, h2]
    cases decide (s.length ≤ 40) <;> cases (s.head? == some 45) <;> rfl
  · rw [e3] at h2
    have hk : decide ((k : Int) < 0) = false := by simp
    simp only [h1, bd, meta_tenant.a0, h2, hk]
    cases decide (s.length ≤ 40) <;> rfl

def tenF (first : Bool) (x : UInt8) : Bool := tenC x && !(first && x.toNat == 45)
def tenG (first : Bool) (x : UInt8) : mandolineref14_Tenant.l0X ⊕ Bool := bif tenF first x then .inr false else .inl .ret
theorem tenG_all : ∀ (l : List UInt8), foldE tenG (fun _ => mandolineref14_Tenant.l0X.x0) l false = bif l.all tenC then .x0 else .ret
  | [] => rfl
  | x :: r => by
    simp only [foldE, tenG, tenF, Bool.false_and, Bool.not_false, Bool.and_true, List.all_cons]
    cases h : tenC x
    · rfl
    · simp only [cond_true, Bool.true_and]; exact tenG_all r
theorem tenG_all0 (l : List UInt8) : foldE tenG (fun _ => mandolineref14_Tenant.l0X.x0) l true = bif (l.all tenC && !(l.head? == some 45)) then .x0 else .ret := by
  cases l with
  | nil => rfl
  | cons x r =>
    have e : (x.toNat == 45) = (some x == some 45) := by
      rw [Bool.eq_iff_iff, beq_iff_eq, beq_iff_eq]
      constructor
      · intro h; have : x = 45 := UInt8.toNat_inj.1 h; rw [this]
      · intro h; rw [Option.some.inj h]; rfl
    simp only [foldE, tenG, tenF, Bool.true_and, List.all_cons, List.head?_cons, e]
    cases h : tenC x
    · rfl
    · cases h2 : (some x == some (45 : UInt8))
      · simp only [Bool.not_false, Bool.and_self, cond_true, Bool.true_and, Bool.and_true]
        exact tenG_all r
      · simp
theorem ref_Tenant_eq (s : List UInt8) (hs : s.length ≤ maxLen) : mandolineref14_Tenant.f s = some (tenS s) := by
  unfold mandolineref14_Tenant.f tenS
  have e : loopL (mandolineref14_Tenant.l0B s) 0 = some (foldE tenG (fun _ => mandolineref14_Tenant.l0X.x0) s true) := by
    refine loop_list0 s (fun (_ : Bool) n => (n : Int)) _ _ (fun n f => f = decide (n = 0)) (fun n f x hn hf hx => ?_) (fun f hf => ?_) rfl rfl
    · subst hf
      have h1 : decide ((n : Int) < (s.length : Int)) = true := by simp; omega
      have hw : IntKind.i64.wrap ((n : Int) + 1) = ((n + 1 : Nat) : Int) := wrap_succ (by unfold maxLen at hs; omega)
      have q0 : decide ((n : Int) = 0) = decide (n = 0) := by simp
      have hbody : mandolineref14_Tenant.l0B s (n : Int) = bif tenF (decide (n = 0)) x then some (.next ((n + 1 : Nat) : Int)) else some (.done .ret) := by
        simp only [mandolineref14_Tenant.l0B, idx_nat, hx, bd, h1, hw, q0]
        generalize decide (n = 0) = z
        generalize (some (Step.next ((n + 1 : Nat) : Int)) : Option (Step Int mandolineref14_Tenant.l0X)) = A
        generalize (some (Step.done mandolineref14_Tenant.l0X.ret) : Option (Step Int mandolineref14_Tenant.l0X)) = C
        unfold tenF tenC
        generalize x.toNat = k
        have b1 : (k == 45) = decide (k = 45) := by rw [Bool.eq_iff_iff]; simp
        have a1 : decide ((k : Int) < 97) = !decide (97 ≤ k) := by rw [← decide_not]; exact decide_eq_decide.2 (by omega)
        have a2 : decide ((k : Int) < 65) = !decide (65 ≤ k) := by rw [← decide_not]; exact decide_eq_decide.2 (by omega)
        have a3 : decide ((k : Int) < 48) = !decide (48 ≤ k) := by rw [← decide_not]; exact decide_eq_decide.2 (by omega)
        have a4 : decide ((122 : Int) < (k : Int)) = !decide (k ≤ 122) := by rw [← decide_not]; exact decide_eq_decide.2 (by omega)
        have a5 : decide ((90 : Int) < (k : Int)) = !decide (k ≤ 90) := by rw [← decide_not]; exact decide_eq_decide.2 (by omega)
        have a6 : decide ((57 : Int) < (k : Int)) = !decide (k ≤ 57) := by rw [← decide_not]; exact decide_eq_decide.2 (by omega)
        have a7 : decide ((k : Int) = 45) = decide (k = 45) := decide_eq_decide.2 (by omega)
        have a8 : decide ((k : Int) = 95) = decide (k = 95) := decide_eq_decide.2 (by omega)
        rw [b1, a1, a2, a3, a4, a5, a6, a7, a8]
        clear a1 a2 a3 a4 a5 a6 a7 a8 b1
        by_cases z1 : k = 45
        · subst z1; cases z <;> rfl
        · rw [decide_eq_false z1]
          cases decide (97 ≤ k) <;> cases decide (65 ≤ k) <;> cases decide (48 ≤ k) <;> cases decide (k ≤ 122) <;> cases decide (k ≤ 90) <;> cases decide (k ≤ 57) <;> cases decide (k = 95) <;> cases z <;> rfl
      unfold tenG
      cases h : tenF (decide (n = 0)) x <;> simp [hbody, h]
    · simp [mandolineref14_Tenant.l0B]
  rw [e, tenG_all0]
  have e1 : decide ((s.length : Int) ≤ 40) = decide (s.length ≤ 40) := by simp; omega
  cases (s.all tenC && !(s.head? == some 45)) <;> cases h : decide (s.length ≤ 40) <;> simp [mandolineref14_Tenant.a0, e1, h]
end Go.Proofs.YtkmefgabcdocpaaDoor
