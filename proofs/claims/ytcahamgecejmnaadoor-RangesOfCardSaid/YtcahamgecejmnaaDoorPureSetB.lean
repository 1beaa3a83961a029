/-
  The laws RangesAt, RangesStops, RangesHolds, told plainly. Its conditions: none.
-/
import Derived.Test.YtcahamgecejmnaaDoorPureSetA
namespace Go.Proofs.YtcahamgecejmnaaDoor
open Go Go.Den
set_option linter.unusedSimpArgs false
set_option linter.unusedVariables false

theorem great_eq (ls : List (List api_Span)) (hl : ls.length ≤ maxLen) : mandolinelaw02_great.f ls = some (ls.any fun x => decide ((20 : Int) < (x.length : Int))) := by
  unfold mandolinelaw02_great.f
  have e : loopL (mandolinelaw02_great.l0B ls) 0 = some ((ls.findSome? fun x => if decide ((20 : Int) < (x.length : Int)) = true then some mandolinelaw02_great.l0X.ret else none).getD .x0) := by
    refine loop_find _ _ hl (fun n s hn hs hw => ?_) ?_
    · have h1 : decide ((n : Int) < (ls.length : Int)) = true := by simp; omega
      simp only [mandolinelaw02_great.l0B, idx_nat, hs, bd, h1, hw]
      by_cases q : (20 : Int) < (s.length : Int) <;> simp [q]
    · simp [mandolinelaw02_great.l0B]
  rw [e, find_any]
  simp only [Option.bind_some]
  cases (ls.any fun x => decide ((20 : Int) < (x.length : Int))) <;> rfl

theorem findSome_idx {α β : Type} (p : α → Bool) (h : α → β) : ∀ (l : List α), (l.findSome? fun x => if p x = true then some (h x) else none) = (l[l.findIdx p]?).map h
  | [] => rfl
  | x :: r => by
    simp only [List.findSome?_cons, List.findIdx_cons]
    by_cases q : p x = true
    · simp [q]
    · have q : p x = false := by simpa using q
      simp only [q, Bool.false_eq_true, if_false, cond_false, List.getElem?_cons_succ]
      exact findSome_idx p h r

def firstS (l : List api_Span) (at_ : Int) : api_Span × Bool := match l[firstI l at_]? with
  | some s => (⟨if s.From < at_ then at_ else s.From, s.To⟩, true)
  | none => (⟨0, 0⟩, false)
theorem first_to {l : List api_Span} {at_ : Int} {s : api_Span} (h : l[firstI l at_]? = some s) : at_ < s.To := by
  have hlt := (List.getElem?_eq_some_iff.1 h).1
  have e : l[firstI l at_]'hlt = s := (List.getElem?_eq_some_iff.1 h).2
  have key : (fun s : api_Span => decide (at_ < s.To)) (l[firstI l at_]'hlt) = true := List.findIdx_getElem (w := hlt)
  rw [e] at key
  simpa using key
theorem ref_First_eq (l : List api_Span) (at_ : Int) (hl : l.length ≤ maxLen) : mandolineref02_First.f l at_ = some (firstS l at_) := by
  unfold mandolineref02_First.f
  have e : loopL (mandolineref02_First.l0B l at_) 0 = some ((l.findSome? fun s => if decide (at_ < s.To) = true then some (mandolineref02_First.l0X.ret (if s.From < at_ then at_ else s.From) s.To) else none).getD .x0) := by
    refine loop_find _ _ hl (fun n s hn hs hw => ?_) ?_
    · have h1 : decide ((n : Int) < (l.length : Int)) = true := by simp; omega
      simp only [mandolineref02_First.l0B, idx_nat, hs, bd, h1, hw]
      by_cases q : at_ < s.To <;> by_cases q2 : s.From < at_ <;> simp [q, q2]
    · simp [mandolineref02_First.l0B]
  rw [e, findSome_idx]
  unfold firstS firstI
  cases l[l.findIdx fun s => decide (at_ < s.To)]? <;> rfl
theorem First_eq (c : List api_Span) (at_ : Int) (hc : Canon c) (hl : c.length ≤ 1000) : ranges_Set_First.f ⟨c⟩ at_ = some (firstS c at_) := by
  unfold ranges_Set_First.f
  have e := bin_ok (l := c) (at_ := at_) (ex := ranges_Set_First.l0X.x0) hl hc.tos (body := fun s => ranges_Set_First.l0B ⟨c⟩ at_ s.1 s.2) (fun i j => rfl)
  rw [e]
  have hle := firstI_le c at_
  simp only [Option.bind_some, ranges_Set_First.a0, firstS, idx_nat]
  cases h : c[firstI c at_]? with
  | some s =>
    have hlt := (List.getElem?_eq_some_iff.1 h).1
    have h1 : decide (((firstI c at_ : Nat) : Int) < (c.length : Int)) = true := by simp only [decide_eq_true_eq]; omega
    have h2 : decide (((firstI c at_ : Nat) : Int) = (c.length : Int)) = false := by simp only [decide_eq_false_iff_not]; omega
    have h3 := first_to h
    have h4 : decide (s.To ≤ at_) = false := by simp only [decide_eq_false_iff_not]; omega
    simp only [h1, h2, h4, cond_true, cond_false, bd]
  | none =>
    have := List.getElem?_eq_none_iff.1 h
    have h1 : decide (((firstI c at_ : Nat) : Int) < (c.length : Int)) = false := by simp only [decide_eq_false_iff_not]; omega
    have h2 : decide (((firstI c at_ : Nat) : Int) = (c.length : Int)) = true := by simp only [decide_eq_true_eq]; omega
    simp only [h1, h2, cond_true, cond_false]

theorem Canon.two {c : List api_Span} (h : Canon c) {i j : Nat} {s t : api_Span} (hs : c[i]? = some s) (ht : c[j]? = some t) (hij : i < j) : s.To < t.From := by
  obtain ⟨h1, h2⟩ := List.getElem?_eq_some_iff.1 hs
  obtain ⟨h3, h4⟩ := List.getElem?_eq_some_iff.1 ht
  have := List.pairwise_iff_getElem.1 h.apart i j h1 h3 hij
  rw [h2, h4] at this; exact this
/-- A byte is in a set just where the first span that ends behind it has it. -/
theorem mem_first {c : List api_Span} (hc : Canon c) (x : Int) : mem c x ↔ ∃ s, c[firstI c x]? = some s ∧ s.From ≤ x := by
  constructor
  · rintro ⟨t, ht, h1, h2⟩
    obtain ⟨j, hj⟩ := List.getElem?_of_mem ht
    have hjl := (List.getElem?_eq_some_iff.1 hj).1
    have hle : firstI c x ≤ j := by
      rcases Nat.lt_or_ge j (firstI c x) with h | h
      · have := List.not_of_lt_findIdx h
        rw [(List.getElem?_eq_some_iff.1 hj).2] at this
        simp at this; omega
      · exact h
    rcases Nat.lt_or_eq_of_le hle with h | h
    · have hs : c[firstI c x]? = some c[firstI c x] := List.getElem?_eq_getElem (by omega)
      have := hc.two hs hj h
      have := first_to hs
      omega
    · rw [h]; exact ⟨t, hj, h1⟩
  · rintro ⟨s, hs, h1⟩
    exact ⟨s, List.mem_of_getElem? hs, h1, first_to hs⟩

theorem Has_eq (c : List api_Span) (at_ : Int) (hc : Canon c) (hl : c.length ≤ 1000) : ∃ b, ranges_Set_Has.f ⟨c⟩ at_ = some b ∧ (b = true ↔ mem c at_) := by
  unfold ranges_Set_Has.f
  have e := bin_ok (l := c) (at_ := at_) (ex := ranges_Set_Has.l0X.x0) hl hc.tos (body := fun s => ranges_Set_Has.l0B ⟨c⟩ at_ s.1 s.2) (fun i j => rfl)
  rw [e]
  have hle := firstI_le c at_
  simp only [Option.bind_some, ranges_Set_Has.a0, idx_nat]
  cases h : c[firstI c at_]? with
  | some s =>
    have hlt := (List.getElem?_eq_some_iff.1 h).1
    have h1 : decide (((firstI c at_ : Nat) : Int) < (c.length : Int)) = true := by simp only [decide_eq_true_eq]; omega
    have h3 := first_to h
    have h4 : decide (s.To ≤ at_) = false := by simp only [decide_eq_false_iff_not]; omega
    have hg := (hc.good s (List.mem_of_getElem? h)).right
    have h5 : span_Has.f s at_ = some (decide (s.From ≤ at_)) := by
      have h6 : decide (at_ < s.To) = true := by simpa using h3
      unfold span_Has.f
      rw [span_Right_eq, hg]
      simp only [Option.bind_some, cond_true, h6]
      cases decide (s.From ≤ at_) <;> rfl
    simp only [h1, h4, cond_true, cond_false, bd, h5]
    refine ⟨_, rfl, ?_⟩
    rw [mem_first hc]
    constructor
    · intro hb; exact ⟨s, h, by simpa using hb⟩
    · rintro ⟨t, ht, hb⟩
      rw [h] at ht
      obtain rfl := Option.some.inj ht
      simpa using hb
  | none =>
    have := List.getElem?_eq_none_iff.1 h
    have h1 : decide (((firstI c at_ : Nat) : Int) < (c.length : Int)) = false := by simp only [decide_eq_false_iff_not]; omega
    simp only [h1, cond_false]
    refine ⟨false, rfl, ?_⟩
    rw [mem_first hc]
    constructor
    · intro hb; cases hb
    · rintro ⟨t, ht, _⟩; rw [h] at ht; cases ht

theorem wakes_eq : mandolinelaw02_wakes.f = some true := rfl

theorem law_RangesAt (l : List api_Span) (at_ : Int) (hl : l.length ≤ maxLen) : mandolinelaw02_RangesAt.f l at_ = some true := by
  unfold mandolinelaw02_RangesAt.f
  rw [wakes_eq, great_eq [l] (by simp [maxLen])]
  simp only [Option.bind_some, cond_true, List.any_cons, List.any_nil, Bool.or_false]
  by_cases h : (20 : Int) < (l.length : Int)
  · simp [h]
  · have hl : l.length ≤ 1000 := by omega
    have hc := ofS_canon l
    have hcl := ofS_length l
    obtain ⟨b, hb1, hb2⟩ := Has_eq (ofS l) at_ hc (by omega)
    rw [ranges_Of_eq l hl, ref_Of_eq l hl, ref_In_eq l at_ (by unfold maxLen; omega)]
    simp only [Option.bind_some, h, decide_false, cond_false]
    rw [First_eq _ at_ hc (by omega), ref_First_eq _ at_ (by unfold maxLen; omega), hb1]
    have hbi : b = InS l at_ := by rw [Bool.eq_iff_iff, hb2, ofS_mem]
    rw [hbi]
    simp

theorem stops_fold (many : Int) : ∀ (l : List api_Span) (a : Int), a < many → foldE (fun (a : Int) (_ : api_Span) => if a + 1 < many then .inr (a + 1) else .inl (mandolinelaw02_RangesStops.l0X.ret (a + 1))) mandolinelaw02_RangesStops.l0X.x0 l a =
    if a + (l.length : Int) < many then .x0 (a + l.length) else .ret many
  | [], a, h => by simp [foldE, h]
  | x :: r, a, h => by
    simp only [foldE]
    by_cases h1 : a + 1 < many
    · rw [if_pos h1]
      simp only
      rw [stops_fold many r (a + 1) h1]
      have e1 : a + 1 + (r.length : Int) = a + ((x :: r).length : Int) := by simp; omega
      rw [e1]
    · rw [if_neg h1]
      simp only
      rw [if_neg (by simp only [List.length_cons]; omega)]
      congr 1; omega

theorem law_RangesStops (l : List api_Span) (k : Int) (hl : l.length ≤ maxLen) (hk : 0 ≤ k ∧ k < 256) : mandolinelaw02_RangesStops.f l k = some true := by
  unfold mandolinelaw02_RangesStops.f
  rw [wakes_eq, great_eq [l] (by simp [maxLen])]
  simp only [Option.bind_some, cond_true, List.any_cons, List.any_nil, Bool.or_false]
  by_cases h : (20 : Int) < (l.length : Int)
  · simp [h]
  · have hl : l.length ≤ 1000 := by omega
    have hcl := ofS_length l
    rw [ranges_Of_eq l hl, ref_Of_eq l hl]
    simp only [Option.bind_some, h, decide_false, cond_false]
    have hmod : 0 ≤ Int.tmod k 22 ∧ Int.tmod k 22 < 22 := by
      rw [Int.tmod_eq_emod_of_nonneg hk.1]; omega
    have hmany : IntKind.i64.wrap (1 + Int.tmod (IntKind.i64.wrap k) 22) = 1 + Int.tmod k 22 := by
      rw [wrap64_id (i := k) (by omega) (by omega), wrap64_id (by omega) (by omega)]
    generalize ofS l = c at hcl
    generalize hm : 1 + Int.tmod k 22 = many at hmany
    have e : loopL (fun (s : Int × Int) => mandolinelaw02_RangesStops.l0B ⟨c⟩ k s.1 s.2) (0, 0) = some (foldE (fun (a : Int) (_ : api_Span) => if a + 1 < many then .inr (a + 1) else .inl (mandolinelaw02_RangesStops.l0X.ret (a + 1))) mandolinelaw02_RangesStops.l0X.x0 c 0) := by
      refine loop_list0 c (fun (a : Int) i => ((i : Int), a)) _ _ (fun i a => a = i) (fun i a x hi ha hx => ?_) (fun a ha => ?_) rfl rfl
      · have hw : IntKind.i64.wrap ((i : Int) + 1) = ((i + 1 : Nat) : Int) := wrap_succ (by omega)
        have h1 : decide ((i : Int) < (c.length : Int)) = true := by simp only [decide_eq_true_eq]; omega
        have hwa : IntKind.i64.wrap (a + 1) = a + 1 := wrap64_id (by omega) (by omega)
        by_cases q : a + 1 < many
        · rw [if_pos q]
          simp only [mandolinelaw02_RangesStops.l0B, h1, idx_nat, hx, bd, hwa, hw, hmany, q, decide_true, cond_true]
          exact ⟨trivial, by omega⟩
        · rw [if_neg q]
          simp only [mandolinelaw02_RangesStops.l0B, h1, idx_nat, hx, bd, hwa, hw, hmany, q, decide_false, cond_true, cond_false]
      · simp [mandolinelaw02_RangesStops.l0B]
    rw [e, stops_fold many c 0 (by omega)]
    simp only [Int.zero_add]
    split
    · rename_i q
      simp only [Option.bind_some, mandolinelaw02_RangesStops.a0, hmany, q, if_true, decide_true]
    · rename_i q
      simp only [Option.bind_some, mandolinelaw02_RangesStops.a0, hmany, q, if_false, decide_true]

theorem law_RangesStops' (l : List api_Span) (k : Int) (hl : l.length ≤ maxLen) (hk : (Lit.int .u8 k).wf = true) : mandolinelaw02_RangesStops.f l k = some true := by
  refine law_RangesStops l k hl ?_
  have h : IntKind.u8.min ≤ k ∧ k ≤ IntKind.u8.max := by simpa [Lit.wf] using hk
  have h1 : IntKind.u8.min = 0 := by decide
  have h2 : IntKind.u8.max = 255 := by decide
  rw [h1, h2] at h
  omega

theorem to_out {c : List api_Span} (hc : Canon c) {s : api_Span} (hs : s ∈ c) : ¬ mem c s.To := by
  rintro ⟨t, ht, h1, h2⟩
  obtain ⟨i, hi⟩ := List.getElem?_of_mem hs
  obtain ⟨j, hj⟩ := List.getElem?_of_mem ht
  rcases Nat.lt_trichotomy i j with h | h | h
  · have := hc.two hi hj h; omega
  · subst h; rw [hi] at hj; obtain rfl := Option.some.inj hj; omega
  · have := hc.two hj hi h
    have := (hc.good s hs).lt
    omega

theorem law_RangesHolds (l : List api_Span) (x : api_Span) (hl : l.length ≤ maxLen) (hx : x.wf) : mandolinelaw02_RangesHolds.f l x = some true := by
  unfold mandolinelaw02_RangesHolds.f
  rw [wakes_eq, great_eq [l] (by simp [maxLen])]
  simp only [Option.bind_some, cond_true, List.any_cons, List.any_nil, Bool.or_false]
  by_cases h : (20 : Int) < (l.length : Int)
  · simp [h]
  · have hl : l.length ≤ 1000 := by omega
    have hcl := ofS_length l
    have hc := ofS_canon l
    rw [ranges_Of_eq l hl, ref_Of_eq l hl]
    simp only [Option.bind_some, h, decide_false, cond_false]
    generalize ofS l = c at hcl hc
    have op3 : opS 3 false false = false := rfl
    unfold ranges_Set_Holds.f mandolineref02_Holds.f mandolineref02_Less.f
    rw [span_Right_eq, ref_Right_eq, ref_of_eq [x] c 3 (by simp) (by omega) (.inr (.inr rfl))]
    simp only [Option.bind_some]
    by_cases hr : rightS x = true
    · simp only [hr, cond_true]
      have hR := right_iff.1 hr
      have hmem := refS_mem op3 [x] c
      have hop : ∀ a b, opS 3 a b = (a && !b) := fun a b => rfl
      have hx1 : ∀ y, InS [x] y = true ↔ x.From ≤ y ∧ y < x.To := by intro y; simp [InS, hr]
      have hnil : (refS (opS 3) [x] c).length = 0 ↔ ∀ y, x.From ≤ y → y < x.To → mem c y := by
        constructor
        · intro h0 y h1 h2
          have hn : refS (opS 3) [x] c = [] := List.length_eq_zero_iff.1 h0
          have := (hmem y).2
          rw [hn] at this
          cases hb : InS c y with
          | true => exact (canon_InS hc y).1 hb
          | false => exact absurd (this (by rw [hop, (hx1 y).2 ⟨h1, h2⟩, hb]; rfl)) mem_nil
        · intro hall
          have : refS (opS 3) [x] c = [] := canon_ext (refS_canon op3 _ _) canon_nil (fun y => by
            rw [hmem, hop]
            constructor
            · intro hy
              simp only [Bool.and_eq_true, Bool.not_eq_true'] at hy
              have hy1 := (hx1 y).1 hy.1
              have := (canon_InS hc y).2 (hall y hy1.1 hy1.2)
              rw [this] at hy; cases hy.2
            · intro hy; exact absurd hy mem_nil)
          rw [this]; rfl
      by_cases heq : x.From = x.To
      · have : (refS (opS 3) [x] c).length = 0 := hnil.2 (fun y h1 h2 => by omega)
        simp [heq, this]
      · simp only [heq, decide_false, cond_false]
        have hlt : x.From < x.To := by omega
        have e := bin_ok (l := c) (at_ := x.From) (ex := ranges_Set_Holds.l0X.x0) (by omega) hc.tos (body := fun s => ranges_Set_Holds.l0B ⟨c⟩ x s.1 s.2) (fun i j => rfl)
        rw [e]
        have hle := firstI_le c x.From
        simp only [Option.bind_some, ranges_Set_Holds.a0, idx_nat]
        cases hf : c[firstI c x.From]? with
        | some s =>
          have hfl := (List.getElem?_eq_some_iff.1 hf).1
          have h1 : decide (((firstI c x.From : Nat) : Int) < (c.length : Int)) = true := by simp only [decide_eq_true_eq]; omega
          have h3 := first_to hf
          have h4 : decide (s.To ≤ x.From) = false := by simp only [decide_eq_false_iff_not]; omega
          have hsm := List.mem_of_getElem? hf
          have hg := (hc.good s hsm).right
          have h5 : span_Within.f x s = some (decide (s.From ≤ x.From) && decide (x.To ≤ s.To)) := by
            unfold span_Within.f
            rw [span_Right_eq, span_Right_eq, hg, hr]
            simp only [Option.bind_some, cond_true, heq, decide_false, cond_false]
            cases decide (s.From ≤ x.From) <;> rfl
          simp only [h1, h4, cond_true, cond_false, bd, h5]
          have hiff : (s.From ≤ x.From ∧ x.To ≤ s.To) ↔ (refS (opS 3) [x] c).length = 0 := by
            rw [hnil]
            constructor
            · rintro ⟨q1, q2⟩ y q3 q4
              exact ⟨s, hsm, by omega, by omega⟩
            · intro hall
              obtain ⟨t, ht, q1⟩ := (mem_first hc x.From).1 (hall x.From (Int.le_refl _) hlt)
              rw [hf] at ht
              obtain rfl := Option.some.inj ht
              refine ⟨q1, ?_⟩
              rcases Int.lt_or_le s.To x.To with q2 | q2
              · exact absurd (hall s.To (by omega) q2) (to_out hc hsm)
              · exact q2
          by_cases q : s.From ≤ x.From ∧ x.To ≤ s.To
          · have := hiff.1 q
            simp [q.1, q.2, this]
          · have h0 : ¬ (refS (opS 3) [x] c).length = 0 := fun h0 => q (hiff.2 h0)
            have h0' : ¬ ((refS (opS 3) [x] c).length : Int) = 0 := by omega
            have qb : (decide (s.From ≤ x.From) && decide (x.To ≤ s.To)) = false := by
              rw [Bool.eq_false_iff]; intro hh; simp only [Bool.and_eq_true, decide_eq_true_eq] at hh; exact q hh
            have h0n : ¬ refS (opS 3) [x] c = [] := fun hh => h0 (by rw [hh]; rfl)
            rw [qb]
            simp [h0n]
        | none =>
          have hn := List.getElem?_eq_none_iff.1 hf
          have h1 : decide (((firstI c x.From : Nat) : Int) < (c.length : Int)) = false := by simp only [decide_eq_false_iff_not]; omega
          simp only [h1, cond_false]
          have h0 : ¬ (refS (opS 3) [x] c).length = 0 := by
            intro h0
            obtain ⟨t, ht, _⟩ := (mem_first hc x.From).1 (hnil.1 h0 x.From (Int.le_refl _) hlt)
            rw [hf] at ht; cases ht
          have h0n : ¬ refS (opS 3) [x] c = [] := fun hh => h0 (by rw [hh]; rfl)
          simp [h0n]
    · have hr : rightS x = false := by simpa using hr
      simp [hr]
end Go.Proofs.YtcahamgecejmnaaDoor
