/-
  What the program's operations of two sets come to. Its conditions: sets of at most 400 spans.
-/
import Derived.Test.YtcahamgecejmnaaDoorPureSetE
import Derived.Test.YtcahamgecejmnaaDoorPureSetG
namespace Go.Proofs.YtcahamgecejmnaaDoor
open Go Go.Den
set_option linter.unusedSimpArgs false
set_option linter.unusedVariables false

/-! either -/
theorem Concat_eq (a b : List api_Span) (ha : a.length ≤ 1000) (hb : b.length ≤ 1000) : slices_Concat_api_Span_api_Span.f [a, b] = some (a ++ b) := by
  have i0 : idx [a, b] (0 : Int) = some a := rfl
  have i1 : idx [a, b] (1 : Int) = some b := rfl
  have w0 : IntKind.i64.wrap ((0 : Int) + (a.length : Int)) = (a.length : Int) := by rw [wrap64_id (by omega) (by omega)]; omega
  have w1 : IntKind.i64.wrap ((a.length : Int) + (b.length : Int)) = ((a.length : Int) + (b.length : Int)) := wrap64_id (by omega) (by omega)
  have v0 : IntKind.i64.wrap ((0 : Int) + 1) = 1 := rfl
  have v1 : IntKind.i64.wrap ((1 : Int) + 1) = 2 := rfl
  have n0 : decide ((a.length : Int) < 0) = false := by simp only [decide_eq_false_iff_not]; omega
  have n1 : decide ((a.length : Int) + (b.length : Int) < 0) = false := by simp only [decide_eq_false_iff_not]; omega
  have h0 : slices_Concat_api_Span_api_Span.l0B [a, b] 0 0 = some (.next ((a.length : Int), 1)) := by
    simp only [slices_Concat_api_Span_api_Span.l0B, i0, bd, w0, v0, n0]; rfl
  have h1 : slices_Concat_api_Span_api_Span.l0B [a, b] (a.length : Int) 1 = some (.next ((a.length : Int) + (b.length : Int), 2)) := by
    simp only [slices_Concat_api_Span_api_Span.l0B, i1, bd, w1, v1, n1]; rfl
  have h2 : slices_Concat_api_Span_api_Span.l0B [a, b] ((a.length : Int) + (b.length : Int)) 2 = some (.done (.x0 ((a.length : Int) + (b.length : Int)))) := rfl
  have e0 : loopL (fun (s : Int × Int) => slices_Concat_api_Span_api_Span.l0B [a, b] s.1 s.2) (0, 0) = some (.x0 ((a.length : Int) + (b.length : Int))) :=
    (loopL_next (s := ((0 : Int), (0 : Int))) h0).trans ((loopL_next (s := ((a.length : Int), (1 : Int))) h1).trans (loopL_done (s := ((a.length : Int) + (b.length : Int), (2 : Int))) h2))
  have r0 : (([] : List api_Span).length + a.length) * 16 ≤ room := by unfold room; simp only [List.length_nil]; omega
  have r1 : (a.length + b.length) * 16 ≤ room := by unfold room; omega
  have k0 : slices_Concat_api_Span_api_Span.l1B [a, b] [] 0 = some (.next (a, 1)) := by
    simp only [slices_Concat_api_Span_api_Span.l1B, i0, bd, v0, if_pos r0, List.nil_append]; rfl
  have k1 : slices_Concat_api_Span_api_Span.l1B [a, b] a 1 = some (.next (a ++ b, 2)) := by
    simp only [slices_Concat_api_Span_api_Span.l1B, i1, bd, v1, if_pos r1]; rfl
  have k2 : slices_Concat_api_Span_api_Span.l1B [a, b] (a ++ b) 2 = some (.done (.x2 (a ++ b))) := rfl
  have e1 : loopL (fun (s : (List api_Span) × Int) => slices_Concat_api_Span_api_Span.l1B [a, b] s.1 s.2) (([] : List api_Span), 0) = some (.x2 (a ++ b)) :=
    (loopL_next (s := (([] : List api_Span), (0 : Int))) k0).trans ((loopL_next (s := (a, (1 : Int))) k1).trans (loopL_done (s := (a ++ b, (2 : Int))) k2))
  unfold slices_Concat_api_Span_api_Span.f
  rw [e0, Option.bind_some]
  simp only [slices_Concat_api_Span_api_Span.a0]
  rw [if_pos ⟨by omega, by omega⟩, e1]
  rfl
theorem Or_eq (a b : List api_Span) (ha : a.length ≤ 400) (hb : b.length ≤ 400) : ranges_Set_Or.f ⟨a⟩ ⟨b⟩ = some ⟨ofS (a ++ b)⟩ := by
  unfold ranges_Set_Or.f
  simp only
  rw [Concat_eq a b (by omega) (by omega), Option.bind_some, ranges_Of_eq _ (by simp only [List.length_append]; omega)]
  rfl

/-! both -/
theorem Meet_eq {x y : api_Span} (hx : Good x) (hy : Good y) : span_Meet.f x y = some (if (if y.To < x.To then y.To else x.To) ≤ (if x.From < y.From then y.From else x.From) then ((⟨0, 0⟩ : api_Span), false)
    else ((⟨if x.From < y.From then y.From else x.From, if y.To < x.To then y.To else x.To⟩ : api_Span), true)) := by
  unfold span_Meet.f
  rw [span_Right_eq, span_Right_eq]
  simp only [Option.bind_some, hx.right, hy.right, cond_true]
  generalize (if y.To < x.To then y.To else x.To) = mn
  generalize (if x.From < y.From then y.From else x.From) = mx
  by_cases h : mn ≤ mx <;> simp [h]
theorem meetS_len (x y : api_Span) : (meetS x y).length ≤ 1 := by
  unfold meetS
  generalize (if y.To < x.To then y.To else x.To) = mn
  generalize (if x.From < y.From then y.From else x.From) = mx
  by_cases h : mx < mn <;> simp [h]
theorem And_eq (a b : List api_Span) (ha : Canon a) (hb : Canon b) (hla : a.length ≤ 1000) (hlb : b.length ≤ 1000) : ranges_Set_And.f ⟨a⟩ ⟨b⟩ = some ⟨andF a b⟩ := by
  unfold ranges_Set_And.f
  have main : ∀ (n i j : Nat) (out : List api_Span), (a.length - i) + (b.length - j) = n → i ≤ a.length → j ≤ b.length → out.length ≤ i + j →
      loopL (fun (s : (List api_Span) × Int × Int) => ranges_Set_And.l0B ⟨a⟩ ⟨b⟩ s.1 s.2.1 s.2.2) (out, (i : Int), (j : Int)) = some (.x0 (out ++ andF (a.drop i) (b.drop j))) := by
    intro n
    induction n using Nat.strongRecOn with
    | ind n ih =>
      intro i j out hn hi hj ho
      by_cases h1 : i < a.length
      · have d1 : decide ((i : Int) < (a.length : Int)) = true := by simp only [decide_eq_true_eq]; omega
        by_cases h2 : j < b.length
        · have d2 : decide ((j : Int) < (b.length : Int)) = true := by simp only [decide_eq_true_eq]; omega
          obtain ⟨x, hx⟩ : ∃ x, a[i] = x := ⟨_, rfl⟩
          obtain ⟨y, hy⟩ : ∃ y, b[j] = y := ⟨_, rfl⟩
          have ga : a[i]? = some x := by rw [List.getElem?_eq_getElem h1, hx]
          have gb : b[j]? = some y := by rw [List.getElem?_eq_getElem h2, hy]
          have ea : a.drop i = x :: a.drop (i + 1) := by rw [List.drop_eq_getElem_cons h1, hx]
          have eb : b.drop j = y :: b.drop (j + 1) := by rw [List.drop_eq_getElem_cons h2, hy]
          have gx : Good x := by rw [← hx]; exact ha.good _ (List.getElem_mem h1)
          have gy : Good y := by rw [← hy]; exact hb.good _ (List.getElem_mem h2)
          have e : andF (a.drop i) (b.drop j) = meetS x y ++ (if x.To < y.To then andF (a.drop (i + 1)) (b.drop j) else andF (a.drop i) (b.drop (j + 1))) := by
            rw [ea, eb, andF]
          have hw1 : IntKind.i64.wrap ((i : Int) + 1) = ((i + 1 : Nat) : Int) := wrap_succ (by omega)
          have hw2 : IntKind.i64.wrap ((j : Int) + 1) = ((j + 1 : Nat) : Int) := wrap_succ (by omega)
          have hr : (out.length + 1) * 16 ≤ room := room_ok (by omega)
          have hml := meetS_len x y
          have step : ranges_Set_And.l0B ⟨a⟩ ⟨b⟩ out (i : Int) (j : Int) = some (.next (if x.To < y.To then (out ++ meetS x y, ((i + 1 : Nat) : Int), (j : Int)) else (out ++ meetS x y, (i : Int), ((j + 1 : Nat) : Int)))) := by
            simp only [ranges_Set_And.l0B, ranges_Set_And.k0, d1, d2, cond_true, idx_nat, ga, gb, bd, Meet_eq gx gy, hw1, hw2]
            unfold meetS
            generalize (if y.To < x.To then y.To else x.To) = mn
            generalize (if x.From < y.From then y.From else x.From) = mx
            by_cases hm : mn ≤ mx
            · have hm2 : ¬ mx < mn := by omega
              by_cases hc : x.To < y.To <;> simp [hm, hm2, hc]
            · have hm2 : mx < mn := by omega
              by_cases hc : x.To < y.To <;> simp [hm, hm2, hc, hr]
          rw [e]
          by_cases hc : x.To < y.To
          · rw [if_pos hc] at step ⊢
            rw [loopL_next (s := (out, (i : Int), (j : Int))) step, ← List.append_assoc]
            exact ih _ (by omega) (i + 1) j (out ++ meetS x y) rfl (by omega) hj (by rw [List.length_append]; omega)
          · rw [if_neg hc] at step ⊢
            rw [loopL_next (s := (out, (i : Int), (j : Int))) step, ← List.append_assoc]
            exact ih _ (by omega) i (j + 1) (out ++ meetS x y) rfl hi (by omega) (by rw [List.length_append]; omega)
        · have d2 : decide ((j : Int) < (b.length : Int)) = false := by simp only [decide_eq_false_iff_not]; omega
          have step : ranges_Set_And.l0B ⟨a⟩ ⟨b⟩ out (i : Int) (j : Int) = some (.done (.x0 out)) := by
            simp only [ranges_Set_And.l0B, d1, d2, cond_true, cond_false]
          rw [loopL_done (s := (out, (i : Int), (j : Int))) step, List.drop_eq_nil_of_le (show b.length ≤ j by omega), andF_nil, List.append_nil]
      · have d1 : decide ((i : Int) < (a.length : Int)) = false := by simp only [decide_eq_false_iff_not]; omega
        have step : ranges_Set_And.l0B ⟨a⟩ ⟨b⟩ out (i : Int) (j : Int) = some (.done (.x0 out)) := by
          simp only [ranges_Set_And.l0B, d1, cond_false]
        rw [loopL_done (s := (out, (i : Int), (j : Int))) step, List.drop_eq_nil_of_le (show a.length ≤ i by omega)]
        simp [andF]
  have := main _ 0 0 [] rfl (Nat.zero_le _) (Nat.zero_le _) (by simp)
  simp only [List.drop_zero, List.nil_append] at this
  exact (congrArg (fun o => o.bind ranges_Set_And.a0) this).trans rfl

/-! one without the other -/
theorem skip_eq (b : List api_Span) (x : api_Span) (hlb : b.length ≤ 1000) : ∀ (n j : Nat), b.length - j = n → j ≤ b.length →
    ∃ j' : Nat, j' ≤ b.length ∧ loopL (ranges_Set_Less.l1B ⟨b⟩ x) (j : Int) = some (.x2 (j' : Int)) ∧ b.drop j' = pastS x.From (b.drop j) := by
  intro n
  induction n with
  | zero =>
    intro j hn hj
    have d : decide ((j : Int) < (b.length : Int)) = false := by simp only [decide_eq_false_iff_not]; omega
    refine ⟨j, hj, loopL_done (by simp only [ranges_Set_Less.l1B, d, cond_false]), ?_⟩
    rw [List.drop_eq_nil_of_le (show b.length ≤ j by omega)]; rfl
  | succ n ih =>
    intro j hn hj
    have h1 : j < b.length := by omega
    have d : decide ((j : Int) < (b.length : Int)) = true := by simp only [decide_eq_true_eq]; omega
    obtain ⟨t, ht⟩ : ∃ t, b[j] = t := ⟨_, rfl⟩
    have gb : b[j]? = some t := by rw [List.getElem?_eq_getElem h1, ht]
    have eb : b.drop j = t :: b.drop (j + 1) := by rw [List.drop_eq_getElem_cons h1, ht]
    have hw : IntKind.i64.wrap ((j : Int) + 1) = ((j + 1 : Nat) : Int) := wrap_succ (by omega)
    by_cases q : t.To ≤ x.From
    · obtain ⟨j', q1, q2, q3⟩ := ih (j + 1) (by omega) (by omega)
      refine ⟨j', q1, ?_, ?_⟩
      · rw [loopL_next (s' := ((j + 1 : Nat) : Int)) (by simp only [ranges_Set_Less.l1B, d, cond_true, idx_nat, gb, bd, q, decide_true, hw]), q2]
      · rw [q3, eb]; simp [pastS, List.dropWhile_cons, q]
    · refine ⟨j, hj, loopL_done (by simp only [ranges_Set_Less.l1B, d, cond_true, idx_nat, gb, bd, q, decide_false, cond_false]), ?_⟩
      rw [eb]; simp [pastS, List.dropWhile_cons, q]
theorem cut_eq (a b : List api_Span) (x : api_Span) (v w : Int) (hlb : b.length ≤ 1000) : ∀ (n k : Nat) (out : List api_Span) (f : Int), b.length - k = n → k ≤ b.length → out.length + (b.length - k) ≤ 900000 →
    ∃ (out' : List api_Span) (f' : Int), loopL (fun (s : (List api_Span) × Int × Int) => ranges_Set_Less.l2B ⟨b⟩ x v ⟨a⟩ w s.1 s.2.1 s.2.2) (out, (k : Int), f) = some (.x4 out' f') ∧
      out' ++ (if f' < x.To then [⟨f', x.To⟩] else []) = out ++ cutF x.To f (b.drop k) ∧ out'.length ≤ out.length + (b.length - k) := by
  intro n
  induction n with
  | zero =>
    intro k out f hn hk ho
    have d : decide ((k : Int) < (b.length : Int)) = false := by simp only [decide_eq_false_iff_not]; omega
    refine ⟨out, f, loopL_done (s := (out, (k : Int), f)) (by simp only [ranges_Set_Less.l2B, d, cond_false]), ?_, by omega⟩
    rw [List.drop_eq_nil_of_le (show b.length ≤ k by omega), cutF]
  | succ n ih =>
    intro k out f hn hk ho
    have h1 : k < b.length := by omega
    have d : decide ((k : Int) < (b.length : Int)) = true := by simp only [decide_eq_true_eq]; omega
    obtain ⟨t, ht⟩ : ∃ t, b[k] = t := ⟨_, rfl⟩
    have gb : b[k]? = some t := by rw [List.getElem?_eq_getElem h1, ht]
    have eb : b.drop k = t :: b.drop (k + 1) := by rw [List.drop_eq_getElem_cons h1, ht]
    have hw : IntKind.i64.wrap ((k : Int) + 1) = ((k + 1 : Nat) : Int) := wrap_succ (by omega)
    have hr : (out.length + 1) * 16 ≤ room := room_ok (by omega)
    rw [eb]
    by_cases q : t.From < x.To
    · obtain ⟨out', f', q1, q2, q3⟩ := ih (k + 1) (out ++ (if f < t.From then [⟨f, t.From⟩] else [])) (if x.To < t.To then x.To else t.To) (by omega) (by omega) (by
        rw [List.length_append]; split <;> simp only [List.length_cons, List.length_nil] <;> omega)
      have step : ranges_Set_Less.l2B ⟨b⟩ x v ⟨a⟩ w out (k : Int) f = some (.next (out ++ (if f < t.From then [⟨f, t.From⟩] else []), ((k + 1 : Nat) : Int), if x.To < t.To then x.To else t.To)) := by
        simp only [ranges_Set_Less.l2B, ranges_Set_Less.k0, d, cond_true, idx_nat, gb, bd, hw, q, decide_true, if_pos hr]
        by_cases p : f < t.From <;> simp [p]
      refine ⟨out', f', (loopL_next (s := (out, (k : Int), f)) step).trans q1, ?_, ?_⟩
      · rw [q2, cutF, if_pos q, List.append_assoc]
      · rw [List.length_append] at q3
        split at q3 <;> simp only [List.length_cons, List.length_nil] at q3 <;> omega
    · refine ⟨out, f, loopL_done (s := (out, (k : Int), f)) (by simp only [ranges_Set_Less.l2B, d, cond_true, idx_nat, gb, bd, q, decide_false, cond_false]), ?_, by omega⟩
      rw [cutF, if_neg q]
theorem Less_eq (a b : List api_Span) (hla : a.length ≤ 400) (hlb : b.length ≤ 1000) : ranges_Set_Less.f ⟨a⟩ ⟨b⟩ = some ⟨lessF a b⟩ := by
  unfold ranges_Set_Less.f
  have main : ∀ (n i j : Nat) (out : List api_Span), a.length - i = n → i ≤ a.length → j ≤ b.length → out.length ≤ i * 1001 →
      loopL (fun (s : (List api_Span) × Int × Int) => ranges_Set_Less.l0B ⟨a⟩ ⟨b⟩ s.1 s.2.1 s.2.2) (out, (j : Int), (i : Int)) = some (.x0 (out ++ lessF (a.drop i) (b.drop j))) := by
    intro n
    induction n with
    | zero =>
      intro i j out hn hi hj ho
      have d : decide ((i : Int) < (a.length : Int)) = false := by simp only [decide_eq_false_iff_not]; omega
      rw [loopL_done (s := (out, (j : Int), (i : Int))) (x := .x0 out) (by simp only [ranges_Set_Less.l0B, d, cond_false]), List.drop_eq_nil_of_le (show a.length ≤ i by omega), lessF, List.append_nil]
    | succ n ih =>
      intro i j out hn hi hj ho
      have h1 : i < a.length := by omega
      have d : decide ((i : Int) < (a.length : Int)) = true := by simp only [decide_eq_true_eq]; omega
      obtain ⟨x, hx⟩ : ∃ x, a[i] = x := ⟨_, rfl⟩
      have ga : a[i]? = some x := by rw [List.getElem?_eq_getElem h1, hx]
      have ea : a.drop i = x :: a.drop (i + 1) := by rw [List.drop_eq_getElem_cons h1, hx]
      have hw : IntKind.i64.wrap ((i : Int) + 1) = ((i + 1 : Nat) : Int) := wrap_succ (by omega)
      obtain ⟨j', j1, j2, j3⟩ := skip_eq b x hlb _ j rfl hj
      obtain ⟨out', f', c1, c2, c3⟩ := cut_eq a b x (j' : Int) (i : Int) hlb _ j' out x.From rfl j1 (by omega)
      have hr : (out'.length + 1) * 16 ≤ room := room_ok (by omega)
      have step : ranges_Set_Less.l0B ⟨a⟩ ⟨b⟩ out (j : Int) (i : Int) = some (.next (out' ++ (if f' < x.To then [⟨f', x.To⟩] else []), (j' : Int), ((i + 1 : Nat) : Int))) := by
        simp only [ranges_Set_Less.l0B, d, cond_true, idx_nat, ga, bd]
        rw [j2, Option.bind_some]
        simp only [ranges_Set_Less.a1]
        rw [c1, Option.bind_some]
        simp only [ranges_Set_Less.a2, hw, if_pos hr]
        by_cases p : f' < x.To <;> simp [p]
      rw [loopL_next (s := (out, (j : Int), (i : Int))) step, ea, lessF, ← j3, ← List.append_assoc, ← c2]
      exact ih (i + 1) j' _ (by omega) (by omega) j1 (by
        rw [List.length_append]; split <;> simp only [List.length_cons, List.length_nil] <;> omega)
  have := main _ 0 0 [] rfl (Nat.zero_le _) (Nat.zero_le _) (by simp)
  simp only [List.drop_zero, List.nil_append] at this
  exact (congrArg (fun o => o.bind ranges_Set_Less.a0) this).trans rfl

/-! the document's -/
theorem or_both {a b : List api_Span} : ofS (a ++ b) = refS (opS 1) a b := canon_ext (ofS_canon _) (refS_canon rfl _ _) (fun x => by
  rw [ofS_mem, refS_mem rfl]; simp [InS, opS])
theorem and_both {a b : List api_Span} (ha : Canon a) (hb : Canon b) : andF a b = refS (opS 2) a b := canon_ext (andF_ok _ a b rfl ha hb).1 (refS_canon rfl _ _) (fun x => by
  rw [(andF_ok _ a b rfl ha hb).2.2.2, refS_mem rfl, ← canon_InS ha, ← canon_InS hb]; simp [opS])
theorem less_both {a b : List api_Span} (ha : Canon a) (hb : Canon b) : lessF a b = refS (opS 3) a b := canon_ext (lessF_ok a b ha hb).1 (refS_canon rfl _ _) (fun x => by
  rw [(lessF_ok a b ha hb).2.2, refS_mem rfl, ← canon_InS ha, ← canon_InS hb]; simp [opS])
theorem refS_len (op : Int) (a b : List api_Span) (ha : a.length ≤ 400) (hb : b.length ≤ 400) : (refS (opS op) a b).length ≤ 100000 := by
  unfold refS
  rw [cutS_fold]
  have hE := (endsS_facts (a ++ b) [] List.Pairwise.nil).2.1
  have hE' : (endsS (a ++ b)).length ≤ 2 * (a.length + b.length) := by
    have : endsS (a ++ b) = (a ++ b).foldl endS [] := rfl
    rw [this]
    simp only [List.length_append, List.length_nil] at hE
    omega
  have main : ∀ (m : List (Int × Int)) (o : List api_Span), (m.foldl (fun o p => cutStep (opS op) a b p.1 p.2 o) o).length ≤ o.length + m.length := by
    intro m
    induction m with
    | nil => intro o; simp
    | cons p m ih =>
      intro o
      have h1 := ih (cutStep (opS op) a b p.1 p.2 o)
      have h2 := cutStep_len (opS op) a b p.1 p.2 o
      simp only [List.foldl_cons, List.length_cons]; omega
  have h3 := main ((endsS (a ++ b)).zip (endsS (a ++ b)).tail) []
  have h4 : ((endsS (a ++ b)).zip (endsS (a ++ b)).tail).length ≤ (endsS (a ++ b)).length := by simp
  simp only [List.length_nil] at h3
  omega
theorem ref_Same_eq (a b : List api_Span) (ha : Canon a) (hb : Canon b) (hla : a.length ≤ 400) (hlb : b.length ≤ 400) : mandolineref02_Same.f a b = some (decide (a = b)) := by
  unfold mandolineref02_Same.f
  rw [ref_Of_eq a (by omega), ref_Of_eq b (by omega), ofS_self ha, ofS_self hb]
  simp only [Option.bind_some]
  by_cases hl : a.length = b.length
  · have h0 : decide ((a.length : Int) = (b.length : Int)) = true := by simp only [decide_eq_true_eq]; omega
    have hz : (a.zip b).length = a.length := by simp [hl]
    have e : loopL (mandolineref02_Same.l0B a b) 0 = some (((a.zip b).findSome? fun p => if p.1 = p.2 then none else some mandolineref02_Same.l0X.ret).getD .x0) := by
      refine loop_find _ _ (by unfold maxLen; omega) (fun n p hn hp hw => ?_) ?_
      · obtain ⟨h1, h2⟩ := zip_get hp
        have h3 : decide ((n : Int) < (a.length : Int)) = true := by simp only [decide_eq_true_eq]; omega
        simp only [mandolineref02_Same.l0B, idx_nat, h1, h2, bd, h3, hw, span_eq, cond_true]
        by_cases q : p.1 = p.2 <;> simp [q]
      · rw [hz]; simp [mandolineref02_Same.l0B]
    simp only [h0, cond_true]
    rw [e, find_zip _ a b hl]
    by_cases q : a = b <;> simp [q, mandolineref02_Same.a0]
  · have h0 : decide ((a.length : Int) = (b.length : Int)) = false := by simp only [decide_eq_false_iff_not]; omega
    simp only [h0, cond_false]
    have : a ≠ b := fun h => hl (by rw [h])
    simp [this]

theorem law_RangesTwo (l m : List api_Span) (hl : l.length ≤ maxLen) (hm : m.length ≤ maxLen) : mandolinelaw02_RangesTwo.f l m = some true := by
  unfold mandolinelaw02_RangesTwo.f
  rw [wakes_eq, great_eq [l, m] (by simp [maxLen])]
  simp only [Option.bind_some, cond_true, List.any_cons, List.any_nil, Bool.or_false]
  by_cases h1 : (20 : Int) < (l.length : Int)
  · simp [h1]
  · by_cases h2 : (20 : Int) < (m.length : Int)
    · simp [h2]
    · have h1' : l.length ≤ 20 := by omega
      have h2' : m.length ≤ 20 := by omega
      have ca := ofS_canon l
      have cb := ofS_canon m
      have la := ofS_length l
      have lb := ofS_length m
      rw [ranges_Of_eq l (by omega), ranges_Of_eq m (by omega), ref_Of_eq l (by omega), ref_Of_eq m (by omega)]
      simp only [Option.bind_some, h1, h2, decide_false, Bool.or_self, cond_false]
      generalize ofS l = a at *
      generalize ofS m = b at *
      have la' : a.length ≤ 20 := by omega
      have lb' : b.length ≤ 20 := by omega
      have n1 := refS_len 1 a b (by omega) (by omega)
      have n2 := refS_len 2 a b (by omega) (by omega)
      have n3 := refS_len 3 a b (by omega) (by omega)
      have o1 : mandolineref02_Or.f a b = some (refS (opS 1) a b) := by unfold mandolineref02_Or.f; rw [ref_of_eq a b 1 (by omega) (by omega) (.inl rfl)]; rfl
      have o2 : mandolineref02_And.f a b = some (refS (opS 2) a b) := by unfold mandolineref02_And.f; rw [ref_of_eq a b 2 (by omega) (by omega) (.inr (.inl rfl))]; rfl
      have o3 : mandolineref02_Less.f a b = some (refS (opS 3) a b) := by unfold mandolineref02_Less.f; rw [ref_of_eq a b 3 (by omega) (by omega) (.inr (.inr rfl))]; rfl
      rw [Or_eq a b (by omega) (by omega), o1, And_eq a b ca cb (by omega) (by omega), o2, Less_eq a b (by omega) (by omega), o3, or_both, and_both ca cb, less_both ca cb]
      simp only [Option.bind_some]
      rw [Spans_eq _ (by omega), Spans_eq _ (by omega), Spans_eq _ (by omega)]
      simp only [Option.bind_some]
      rw [ref_List_eq _ _ (by unfold maxLen; omega), ref_List_eq _ _ (by unfold maxLen; omega), ref_List_eq _ _ (by unfold maxLen; omega)]
      simp only [Option.bind_some, decide_true, cond_true]
      rw [Same_eq a b (by unfold maxLen; omega), ref_Same_eq a b ca cb (by omega) (by omega)]
      simp
end Go.Proofs.YtcahamgecejmnaaDoor
