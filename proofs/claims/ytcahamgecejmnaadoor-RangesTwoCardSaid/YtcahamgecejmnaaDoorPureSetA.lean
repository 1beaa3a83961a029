/-
  What the program's and the document's functions on sets of bytes compute, told plainly. Its conditions: lists of at most 1000 spans.
-/
import Derived.Test.YtcahamgecejmnaaDoorP3
import Derived.Test.YtcahamgecejmnaaDoorPureSet
namespace Go.Proofs.YtcahamgecejmnaaDoor
open Go Go.Den
set_option linter.unusedSimpArgs false
set_option linter.unusedVariables false

theorem span_Right_eq (s : api_Span) : span_Right.f s = some (rightS s) := by
  unfold span_Right.f rightS
  cases decide ((0 : Int) ≤ s.From) <;> cases decide (s.From ≤ s.To) <;> rfl
theorem ref_Right_eq (s : api_Span) : mandolineref01_Right.f s = some (rightS s) := by
  unfold mandolineref01_Right.f rightS mandolineref01_end.f
  cases decide ((0 : Int) ≤ s.From) <;> cases decide (s.From ≤ s.To) <;> rfl

theorem find_any {α E : Type} (p : α → Bool) (a b : E) (l : List α) : ((l.findSome? fun x => if p x = true then some a else none).getD b) = if l.any p = true then a else b := by
  induction l with
  | nil => rfl
  | cons x r ih =>
    simp only [List.findSome?_cons, List.any_cons]
    by_cases h : p x = true
    · simp [h]
    · have h : p x = false := by simpa using h
      simpa [h] using ih
theorem ref_In_eq (l : List api_Span) (x : Int) (hl : l.length ≤ maxLen) : mandolineref02_In.f l x = some (InS l x) := by
  unfold mandolineref02_In.f
  have e : loopL (mandolineref02_In.l0B l x) 0 = some ((l.findSome? fun s => if (rightS s && (decide (s.From ≤ x) && decide (x < s.To))) = true then some mandolineref02_In.l0X.ret else none).getD .x0) := by
    refine loop_find _ _ hl (fun n s hn hs hw => ?_) ?_
    · have h1 : decide ((n : Int) < (l.length : Int)) = true := by simp; omega
      simp only [mandolineref02_In.l0B, idx_nat, hs, bd, h1, ref_Right_eq, hw]
      cases rightS s <;> cases decide (s.From ≤ x) <;> cases decide (x < s.To) <;> rfl
    · simp [mandolineref02_In.l0B]
  rw [e, find_any]
  simp only [Option.bind_some]
  unfold InS
  cases (l.any fun s => rightS s && (decide (s.From ≤ x) && decide (x < s.To))) <;> rfl

/-! insert, ends -/
theorem foldE_inr {α S E : Type} (f : S → α → S) (fin : S → E) : ∀ (l : List α) (s : S), foldE (fun s x => .inr (f s x)) fin l s = fin (l.foldl f s)
  | [], s => rfl
  | x :: r, s => by simp only [foldE, List.foldl_cons]; exact foldE_inr f fin r (f s x)

def insF (n : Int) (s : List Int × Bool) (x : Int) : List Int × Bool :=
  if s.2 = true then (s.1 ++ [x], true) else if n ≤ x then (if n < x then ((s.1 ++ [n]) ++ [x], true) else (s.1 ++ [x], true)) else (s.1 ++ [x], false)
theorem insF_true (n : Int) : ∀ (l out : List Int), l.foldl (insF n) (out, true) = (out ++ l, true)
  | [], out => by simp
  | x :: r, out => by
    have : insF n (out, true) x = (out ++ [x], true) := by simp [insF]
    rw [List.foldl_cons, this, insF_true n r]; simp
theorem insF_false (n : Int) : ∀ (l out : List Int), (if (l.foldl (insF n) (out, false)).2 = true then (l.foldl (insF n) (out, false)).1 else (l.foldl (insF n) (out, false)).1 ++ [n]) = out ++ insS l n
  | [], out => by simp [insS]
  | x :: r, out => by
    rw [List.foldl_cons]
    unfold insS
    by_cases h1 : n ≤ x
    · rw [if_pos h1]
      by_cases h2 : n < x
      · have : insF n (out, false) x = ((out ++ [n]) ++ [x], true) := by simp [insF, h1, h2]
        rw [this, insF_true, if_pos h2]; simp
      · have : insF n (out, false) x = (out ++ [x], true) := by simp [insF, h1, h2]
        rw [this, insF_true, if_neg h2]; simp
    · have : insF n (out, false) x = (out ++ [x], false) := by simp [insF, h1]
      rw [this, if_neg h1, insF_false n r]; simp
theorem insF_len (n : Int) (s : List Int × Bool) (x : Int) : (insF n s x).1.length ≤ s.1.length + 2 := by
  unfold insF; split
  · simp
  · split
    · split <;> simp
    · simp
theorem ref_insert_eq (l : List Int) (n : Int) (hl : l.length ≤ 100000) : mandolineref02_insert.f l n = some (insS l n) := by
  unfold mandolineref02_insert.f
  have e : loopL (fun (s : (List Int) × Bool × Int) => mandolineref02_insert.l0B l n s.1 s.2.1 s.2.2) (([] : List Int), false, 0) = some (foldE (fun s x => .inr (insF n s x)) (fun s => mandolineref02_insert.l0X.x0 s.1 s.2) l ([], false)) := by
    refine loop_list0 l (fun (s : List Int × Bool) i => (s.1, s.2, (i : Int))) _ _ (fun i s => s.1.length ≤ 2 * i) (fun i s x hi hs hx => ?_) (fun s hs => ?_) (by simp) rfl
    · obtain ⟨o, put⟩ := s
      have h1 : decide ((i : Int) < (l.length : Int)) = true := by simp; omega
      have hw : IntKind.i64.wrap ((i : Int) + 1) = ((i + 1 : Nat) : Int) := wrap_succ (by omega)
      simp only at hs
      have hr : (o.length + 1) * 16 ≤ room := room_ok (by omega)
      have hr8 : (o.length + 1) * 8 ≤ room := by omega
      have hr82 : ((o ++ [n]).length + 1) * 8 ≤ room := by have := room_ok (n := o.length + 1) (by omega); simp only [List.length_append, List.length_cons, List.length_nil]; omega
      have hlen := insF_len n (o, put) x
      refine ⟨?_, by simp only at hlen ⊢; omega⟩
      simp only [mandolineref02_insert.l0B, mandolineref02_insert.k0, idx_nat, hx, bd, h1, hw, if_pos hr8, if_pos hr82, insF]
      cases put
      · by_cases h2 : n ≤ x <;> by_cases h3 : n < x <;> simp [h2, h3]
      · simp
    · simp [mandolineref02_insert.l0B]
  have hf := insF_false n l []
  rw [e, foldE_inr]
  have hlen : (l.foldl (insF n) ([], false)).1.length ≤ 2 * l.length := by
    have : ∀ (l : List Int) (s : List Int × Bool), (l.foldl (insF n) s).1.length ≤ s.1.length + 2 * l.length := by
      intro l
      induction l with
      | nil => intro s; simp
      | cons x r ih => intro s; have := ih (insF n s x); have := insF_len n s x; simp only [List.foldl_cons, List.length_cons]; omega
    simpa using this l ([], false)
  generalize l.foldl (insF n) ([], false) = q at hf hlen
  obtain ⟨o, put⟩ := q
  simp only [Option.bind_some, mandolineref02_insert.a0]
  simp only at hf hlen
  have hr8 : (o.length + 1) * 8 ≤ room := by have := room_ok (n := o.length) (by omega); omega
  rw [if_pos hr8]
  cases put <;> simp_all

theorem endS_len (o : List Int) (s : api_Span) : (endS o s).length ≤ o.length + 2 := by
  unfold endS; split
  · have := insS_length (l := insS o s.From) (n := s.To); have := insS_length (l := o) (n := s.From); omega
  · omega
theorem ref_ends_eq (a b : List api_Span) (ha : a.length ≤ 1000) (hb : b.length ≤ 1000) : mandolineref02_ends.f a b = some (endsS (a ++ b)) := by
  unfold mandolineref02_ends.f
  rw [if_pos (by unfold room; omega), if_pos (by unfold room; omega)]
  have e : loopL (fun (s : (List Int) × (List api_Span) × Int) => mandolineref02_ends.l0B s.1 s.2.1 s.2.2) (([] : List Int), (a ++ b), 0) = some (foldE (fun s x => .inr (endS s x)) (fun s => mandolineref02_ends.l0X.x0 s) (a ++ b) []) := by
    refine loop_list0 (a ++ b) (fun (s : List Int) i => (s, a ++ b, (i : Int))) _ _ (fun i s => s.length ≤ 2 * i) (fun i s x hi hs hx => ?_) (fun s hs => ?_) (by simp) rfl
    · have h1 : decide ((i : Int) < ((a ++ b).length : Int)) = true := by simp only [decide_eq_true_eq]; omega
      have hlen : (a ++ b).length ≤ 2000 := by simp; omega
      have hw : IntKind.i64.wrap ((i : Int) + 1) = ((i + 1 : Nat) : Int) := wrap_succ (by omega)
      have h3 := endS_len s x
      refine ⟨?_, by omega⟩
      have h4 := insS_length (l := s) (n := x.From)
      simp only [mandolineref02_ends.l0B, idx_nat, hx, bd, h1, hw, ref_Right_eq, ref_insert_eq s x.From (by omega), ref_insert_eq (insS s x.From) x.To (by omega), endS]
      cases rightS x <;> simp
    · simp [mandolineref02_ends.l0B]
  rw [e, foldE_inr]
  rfl

/-! of -/
theorem cutS_fold (g : Bool → Bool → Bool) (a b : List api_Span) : ∀ (e : List Int) (out : List api_Span), cutS g a b e out = (e.zip e.tail).foldl (fun o p => cutStep g a b p.1 p.2 o) out
  | [], out => rfl
  | [u], out => rfl
  | u :: v :: r, out => by
    rw [cutS, cutS_fold g a b (v :: r)]
    rfl
theorem cutStep_len (g : Bool → Bool → Bool) (a b : List api_Span) (u v : Int) (out : List api_Span) : (cutStep g a b u v out).length ≤ out.length + 1 := by
  unfold cutStep; split
  · exact onLast_length
  · omega
def opS (op : Int) (x y : Bool) : Bool := bif decide (op = 1) then x || y else bif decide (op = 2) then x && y else bif decide (op = 3) then x && !y else false
theorem ref_of_eq (a b : List api_Span) (op : Int) (ha : a.length ≤ 1000) (hb : b.length ≤ 1000) (hop : op = 1 ∨ op = 2 ∨ op = 3) : mandolineref02_of.f a b op = some (refS (opS op) a b) := by
  unfold mandolineref02_of.f
  rw [ref_ends_eq a b ha hb]
  simp only [Option.bind_some]
  have hE : (endsS (a ++ b)).length ≤ 4000 := by
    have := (endsS_facts (a ++ b) [] .nil).2.1
    unfold endsS
    simp only [List.length_append, List.length_nil] at this ⊢
    omega
  unfold refS
  rw [cutS_fold]
  generalize endsS (a ++ b) = E at hE
  have e : loopL (fun (s : (List api_Span) × Int) => mandolineref02_of.l0B E a b op s.1 s.2) (([] : List api_Span), 0) = some (foldE (fun o p => .inr (cutStep (opS op) a b p.1 p.2 o)) (fun o => mandolineref02_of.l0X.x0 o) (E.zip E.tail) []) := by
    refine loop_list0 (E.zip E.tail) (fun (o : List api_Span) i => (o, (i : Int))) _ _ (fun i o => o.length ≤ i) (fun i o p hi ho hp => ?_) (fun o ho => ?_) (by simp) rfl
    · have hlz : (E.zip E.tail).length = E.length - 1 := by simp
      have hw : IntKind.i64.wrap ((i : Int) + 1) = ((i + 1 : Nat) : Int) := wrap_succ (by omega)
      have h1 : decide (((i + 1 : Nat) : Int) < (E.length : Int)) = true := by simp only [decide_eq_true_eq]; omega
      obtain ⟨u, v⟩ := p
      have hu : E[i]? = some u ∧ E[i + 1]? = some v := by
        rw [List.getElem?_zip_eq_some] at hp
        obtain ⟨h2, h3⟩ := hp
        simp only at h2 h3
        rw [List.getElem?_tail] at h3
        exact ⟨h2, h3⟩
      refine ⟨?_, by have := cutStep_len (opS op) a b u v o; simp only; omega⟩
      have hlast := fun (A B : Option (Step ((List api_Span) × Int) mandolineref02_of.l0X)) hA hB => last_step (c := fun t => decide (t.To = u)) (f := fun t => ⟨t.From, v⟩) (n := ⟨u, v⟩) (out := o) (by omega) (fun o' => some (Step.next (o', ((i + 1 : Nat) : Int)))) (A := A) (B := B) hA hB
      have hr : (o.length + 1) * 16 ≤ room := room_ok (by omega)
      simp only [mandolineref02_of.l0B, hw, h1, idx_nat (l := E), hu.1, hu.2, bd, ref_In_eq a u (by unfold maxLen; omega), ref_In_eq b u (by unfold maxLen; omega), if_pos hr, cond_true, hlast _ _ rfl rfl, cutStep, opS]
      rcases hop with rfl | rfl | rfl <;> cases InS a u <;> cases InS b u <;> simp
    · have hlz : (E.zip E.tail).length = E.length - 1 := by simp
      have hw : IntKind.i64.wrap (((E.zip E.tail).length : Int) + 1) = (((E.zip E.tail).length + 1 : Nat) : Int) := wrap_succ (by omega)
      have h1 : decide ((((E.zip E.tail).length + 1 : Nat) : Int) < (E.length : Int)) = false := by simp only [decide_eq_false_iff_not]; omega
      simp only [mandolineref02_of.l0B, hw, h1, cond_false]
  rw [e, foldE_inr]
  rfl
theorem opS1 : opS 1 = fun x y => x || y := by funext x y; rfl
theorem ref_Of_eq (l : List api_Span) (hl : l.length ≤ 1000) : mandolineref02_Of.f l = some (ofS l) := by
  unfold mandolineref02_Of.f
  rw [ref_of_eq l [] 1 hl (by simp) (.inl rfl), opS1, refS_of]; rfl

/-! ranges.Of -/
theorem ranges_Of_eq (l : List api_Span) (hl : l.length ≤ 1000) : ranges_Of.f l = some ⟨ofS l⟩ := by
  unfold ranges_Of.f
  have e : loopL (fun (s : (List api_Span) × Int) => ranges_Of.l0B l s.1 s.2) (([] : List api_Span), 0) = some (foldE (fun o s => .inr (if goodB s = true then o ++ [s] else o)) (fun o => ranges_Of.l0X.x0 o) l []) := by
    refine loop_list0 l (fun (o : List api_Span) i => (o, (i : Int))) _ _ (fun i o => o.length ≤ i) (fun i o s hi ho hs => ?_) (fun o ho => ?_) (by simp) rfl
    · have hw : IntKind.i64.wrap ((i : Int) + 1) = ((i + 1 : Nat) : Int) := wrap_succ (by omega)
      have h1 : decide ((i : Int) < (l.length : Int)) = true := by simp only [decide_eq_true_eq]; omega
      have hr : (o.length + 1) * 16 ≤ room := room_ok (by omega)
      refine ⟨?_, by split <;> (try simp only [List.length_append, List.length_cons, List.length_nil]) <;> omega⟩
      simp only [ranges_Of.l0B, hw, h1, idx_nat, hs, bd, span_Right_eq, if_pos hr, goodB]
      by_cases q1 : rightS s = true
      · by_cases q2 : s.From < s.To <;> simp [q1, q2]
      · have q1 : rightS s = false := by simpa using q1
        simp [q1]
    · simp [ranges_Of.l0B]
  have hfil : ∀ (m o : List api_Span), m.foldl (fun o s => if goodB s = true then o ++ [s] else o) o = o ++ m.filter goodB := by
    intro m
    induction m with
    | nil => intro o; simp
    | cons s m ih =>
      intro o
      rw [List.foldl_cons, ih, List.filter_cons]
      split <;> simp
  rw [e, foldE_inr, hfil, List.nil_append]
  simp only [Option.bind_some, ranges_Of.a0]
  have hlf : (l.filter goodB).length ≤ 1000 := Nat.le_trans (List.length_filter_le _ _) hl
  rw [if_pos (by omega)]
  unfold ofS
  have hls := (sortSpan_perm (l.filter goodB)).length_eq
  generalize l.filter goodB = m at *
  have e2 : loopL (fun (s : (List api_Span) × (List api_Span) × Int) => ranges_Of.l1B m s.1 s.2.1 s.2.2) (([] : List api_Span), (sortSpan m), 0) = some (foldE (fun o s => .inr (merge o s)) (fun o => ranges_Of.l1X.x2 o) (sortSpan m) []) := by
    refine loop_list0 (sortSpan m) (fun (o : List api_Span) i => (o, sortSpan m, (i : Int))) _ _ (fun i o => o.length ≤ i) (fun i o s hi ho hs => ?_) (fun o ho => ?_) (by simp) rfl
    · have hw : IntKind.i64.wrap ((i : Int) + 1) = ((i + 1 : Nat) : Int) := wrap_succ (by omega)
      have h1 : decide ((i : Int) < ((sortSpan m).length : Int)) = true := by simp only [decide_eq_true_eq]; omega
      have hr : (o.length + 1) * 16 ≤ room := room_ok (by omega)
      have hlast := last_step (c := fun t => decide (s.From ≤ t.To)) (f := fun t => ⟨t.From, if t.To < s.To then s.To else t.To⟩) (n := s) (out := o) (by omega) (fun o' => some (Step.next (E := ranges_Of.l1X) (o', sortSpan m, ((i + 1 : Nat) : Int)))) rfl rfl
      refine ⟨?_, by have := onLast_length (c := fun t => decide (s.From ≤ t.To)) (f := fun t => ⟨t.From, if t.To < s.To then s.To else t.To⟩) (n := s) (out := o); simp only [merge]; omega⟩
      simp only [ranges_Of.l1B, hw, h1, idx_nat (l := sortSpan m), hs, bd, if_pos hr, cond_true, merge]
      exact hlast
    · simp [ranges_Of.l1B]
  rw [e2, foldE_inr]
  rfl

/-! the first span that ends behind a byte -/
def firstI (l : List api_Span) (at_ : Int) : Nat := l.findIdx fun s => decide (at_ < s.To)
theorem firstI_le (l : List api_Span) (at_ : Int) : firstI l at_ ≤ l.length := List.findIdx_le_length
theorem bin_ok {E : Type} {l : List api_Span} {at_ : Int} {ex : Int → E} (hl : l.length ≤ 1000) (hs : l.Pairwise fun a b => a.To < b.To) {body : Int × Int → Option (Step (Int × Int) E)}
    (hb : ∀ i j, body (i, j) = bif (decide (i < j)) then
      (idx l (IntKind.i64.wrap ((Int.fdiv (IntKind.u64.wrap ((IntKind.i64.wrap (i + j)))) (2 ^ (min (1 : Int).toNat IntKind.u64.bits)))))).bind fun x =>
      bif (decide (x.To ≤ at_)) then some (.next ((IntKind.i64.wrap ((IntKind.i64.wrap ((Int.fdiv (IntKind.u64.wrap ((IntKind.i64.wrap (i + j)))) (2 ^ (min (1 : Int).toNat IntKind.u64.bits))))) + 1)), j))
      else some (.next (i, (IntKind.i64.wrap ((Int.fdiv (IntKind.u64.wrap ((IntKind.i64.wrap (i + j)))) (2 ^ (min (1 : Int).toNat IntKind.u64.bits)))))))
      else some (.done (ex i))) : loopL body (0, (l.length : Int)) = some (ex (firstI l at_)) := by
  have hlow : ∀ (k : Nat) s, l[k]? = some s → (k < firstI l at_ ↔ s.To ≤ at_) := by
    intro k s hk
    have hlt := (List.getElem?_eq_some_iff.1 hk).1
    have hget := (List.getElem?_eq_some_iff.1 hk).2
    constructor
    · intro h
      have := List.not_of_lt_findIdx h
      rw [hget] at this
      simpa using this
    · intro h
      by_cases h2 : k < firstI l at_
      · exact h2
      · exfalso
        have hf : firstI l at_ < l.length := by omega
        have h3 : at_ < (l[firstI l at_]).To := by
          have := List.findIdx_getElem (w := hf)
          unfold firstI
          simpa using this
        rcases Nat.lt_or_eq_of_le (Nat.le_of_not_lt h2) with h4 | h4
        · have := List.pairwise_iff_getElem.1 hs _ _ hf hlt h4
          rw [hget] at this; omega
        · have : l[firstI l at_] = s := by rw [← hget]; congr 1
          rw [this] at h3; omega
  have main : ∀ (m i j : Nat), j - i = m → i ≤ firstI l at_ → firstI l at_ ≤ j → j ≤ l.length → loopL body ((i : Int), (j : Int)) = some (ex (firstI l at_)) := by
    intro m
    induction m using Nat.strongRecOn with
    | ind m ih =>
      intro i j hm h1 h2 h3
      by_cases hij : i < j
      · have hh : IntKind.i64.wrap ((Int.fdiv (IntKind.u64.wrap ((IntKind.i64.wrap ((i : Int) + (j : Int))))) (2 ^ (min (1 : Int).toNat IntKind.u64.bits)))) = (((i + j) / 2 : Nat) : Int) := by
          rw [wrap64_id (i := (i : Int) + (j : Int)) (by omega) (by omega)]
          have e1 : IntKind.u64.wrap ((i : Int) + (j : Int)) = ((i + j : Nat) : Int) := by
            simp only [IntKind.wrap, IntKind.bits, IntKind.signed]; simp; omega
          rw [e1]
          have e2 : (2 : Int) ^ (min (1 : Int).toNat IntKind.u64.bits) = 2 := by decide
          rw [e2]
          have e3 : Int.fdiv ((i + j : Nat) : Int) 2 = (((i + j) / 2 : Nat) : Int) := by
            rw [Int.fdiv_eq_ediv_of_nonneg _ (by decide)]; omega
          rw [e3, wrap64_id (by omega) (by omega)]
        have hk : (i + j) / 2 < l.length := by omega
        have hget := List.getElem?_eq_getElem hk
        have hd := hlow _ _ hget
        by_cases hc : (l[(i + j) / 2]).To ≤ at_
        · have hstep : body ((i : Int), (j : Int)) = some (.next ((((i + j) / 2 + 1 : Nat) : Int), (j : Int))) := by
            rw [hb, hh, idx_nat, hget]
            have : decide ((i : Int) < (j : Int)) = true := by simp only [decide_eq_true_eq]; omega
            rw [this]
            simp only [cond_true, Option.bind_some, hc, decide_true]
            rw [wrap_succ (by omega)]
          rw [loopL_next hstep]
          exact ih (j - ((i + j) / 2 + 1)) (by omega) _ _ rfl (by have := hd.2 hc; omega) h2 h3
        · have hstep : body ((i : Int), (j : Int)) = some (.next ((i : Int), (((i + j) / 2 : Nat) : Int))) := by
            rw [hb, hh, idx_nat, hget]
            have : decide ((i : Int) < (j : Int)) = true := by simp only [decide_eq_true_eq]; omega
            rw [this]
            simp only [cond_true, Option.bind_some, hc, decide_false, cond_false]
          rw [loopL_next hstep]
          exact ih ((i + j) / 2 - i) (by omega) _ _ rfl h1 (by
            have : ¬ (i + j) / 2 < firstI l at_ := fun h => hc (hd.1 h)
            omega) (by omega)
      · have hstep : body ((i : Int), (j : Int)) = some (.done (ex i)) := by
          rw [hb]
          have : decide ((i : Int) < (j : Int)) = false := by simp only [decide_eq_false_iff_not]; omega
          rw [this]; rfl
        rw [loopL_done hstep]
        have : i = firstI l at_ := by omega
        rw [this]
  exact main (l.length - 0) 0 l.length rfl (Nat.zero_le _) (firstI_le l at_) (Nat.le_refl _)
theorem Canon.tos {l : List api_Span} (h : Canon l) : l.Pairwise fun a b => a.To < b.To := by
  refine h.apart.imp_of_mem (fun {a b} ha hb hab => ?_)
  have := (h.good b hb).lt; omega
end Go.Proofs.YtcahamgecejmnaaDoor
