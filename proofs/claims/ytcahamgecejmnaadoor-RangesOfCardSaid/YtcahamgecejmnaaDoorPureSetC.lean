/-
  Sets with short gaps closed; how many bytes; lists held against each other. Its conditions: lists of at most 1000 spans.
-/
import Derived.Test.YtcahamgecejmnaaDoorP5
import Derived.Test.YtcahamgecejmnaaDoorPureSetB
namespace Go.Proofs.YtcahamgecejmnaaDoor
open Go Go.Den
set_option linter.unusedSimpArgs false
set_option linter.unusedVariables false

/-! lists held against each other -/
instance : DecidableEq api_Span := fun x y => if h : x.From = y.From ∧ x.To = y.To then isTrue (by cases x; cases y; simp_all) else isFalse (by intro q; subst q; exact h ⟨rfl, rfl⟩)
theorem span_eq {a b : api_Span} : ((decide (a.From = b.From)) && (decide (a.To = b.To))) = decide (a = b) := by
  rw [Bool.eq_iff_iff]
  cases a; cases b
  simp
theorem find_zip {E : Type} (e : E) : ∀ (a b : List api_Span), a.length = b.length → ((a.zip b).findSome? fun p => if p.1 = p.2 then none else some e) = if a = b then none else some e
  | [], [], _ => rfl
  | [], _ :: _, h => by simp at h
  | _ :: _, [], h => by simp at h
  | x :: a, y :: b, h => by
    simp only [List.zip_cons_cons, List.findSome?_cons]
    by_cases hxy : x = y
    · simp only [hxy, if_true, find_zip e a b (by simpa using h)]
      simp
    · simp [hxy]
theorem zip_get {a b : List api_Span} {n : Nat} {p : api_Span × api_Span} (h : (a.zip b)[n]? = some p) : a[n]? = some p.1 ∧ b[n]? = some p.2 := by
  rw [List.getElem?_zip_eq_some] at h; exact h
theorem ref_List_eq (a b : List api_Span) (ha : a.length ≤ maxLen) : mandolineref02_List.f a b = some (decide (a = b)) := by
  unfold mandolineref02_List.f
  by_cases hl : a.length = b.length
  · have h0 : decide ((a.length : Int) = (b.length : Int)) = true := by simp only [decide_eq_true_eq]; omega
    have hz : (a.zip b).length = a.length := by simp [hl]
    have e : loopL (mandolineref02_List.l0B a b) 0 = some (((a.zip b).findSome? fun p => if p.1 = p.2 then none else some mandolineref02_List.l0X.ret).getD .x0) := by
      refine loop_find _ _ (by omega) (fun n p hn hp hw => ?_) ?_
      · obtain ⟨h1, h2⟩ := zip_get hp
        have h3 : decide ((n : Int) < (a.length : Int)) = true := by simp only [decide_eq_true_eq]; omega
        simp only [mandolineref02_List.l0B, idx_nat, h1, h2, bd, h3, hw, span_eq, cond_true]
        by_cases q : p.1 = p.2 <;> simp [q]
      · rw [hz]; simp [mandolineref02_List.l0B]
    rw [h0, cond_true, e, find_zip _ a b hl]
    by_cases q : a = b <;> simp [q, mandolineref02_List.a0]
  · have h0 : decide ((a.length : Int) = (b.length : Int)) = false := by simp only [decide_eq_false_iff_not]; omega
    rw [h0, cond_false]
    have : a ≠ b := fun h => hl (by rw [h])
    simp [this]
theorem Same_eq (a b : List api_Span) (ha : a.length ≤ maxLen) : ranges_Set_Same.f ⟨a⟩ ⟨b⟩ = some (decide (a = b)) := by
  unfold ranges_Set_Same.f
  by_cases hl : a.length = b.length
  · have h0 : decide ((a.length : Int) = (b.length : Int)) = true := by simp only [decide_eq_true_eq]; omega
    have hz : (a.zip b).length = a.length := by simp [hl]
    have e : loopL (ranges_Set_Same.l0B ⟨a⟩ ⟨b⟩) 0 = some (((a.zip b).findSome? fun p => if p.1 = p.2 then none else some ranges_Set_Same.l0X.ret).getD .x0) := by
      refine loop_find _ _ (by omega) (fun n p hn hp hw => ?_) ?_
      · obtain ⟨h1, h2⟩ := zip_get hp
        have h3 : decide ((n : Int) < (a.length : Int)) = true := by simp only [decide_eq_true_eq]; omega
        simp only [ranges_Set_Same.l0B, idx_nat, h1, h2, bd, h3, hw, span_eq, cond_true]
        by_cases q : p.1 = p.2 <;> simp [q]
      · rw [hz]; simp [ranges_Set_Same.l0B]
    simp only [h0, cond_true]
    rw [e, find_zip _ a b hl]
    by_cases q : a = b <;> simp [q, ranges_Set_Same.a0]
  · have h0 : decide ((a.length : Int) = (b.length : Int)) = false := by simp only [decide_eq_false_iff_not]; omega
    simp only [h0, cond_false]
    have : a ≠ b := fun h => hl (by rw [h])
    simp [this]
theorem Spans_eq (a : List api_Span) (ha : a.length ≤ 1000000) : ranges_Set_Spans.f ⟨a⟩ = some a := by
  unfold ranges_Set_Spans.f slices_Clone_api_Span.f
  rw [if_pos ⟨by unfold maxLen; simp only; omega, by simp only; omega⟩]; rfl

/-! short gaps closed -/
def nearS (gap : Int) (l : List api_Span) : List api_Span := l.foldl (fun o x => onLast (fun t => decide (IntKind.i64.wrap (x.From - t.To) ≤ gap)) (fun t => ⟨t.From, x.To⟩) x o) []
theorem Near_eq (c : List api_Span) (gap : Int) (hc : c.length ≤ 1000) : ranges_Set_Near.f ⟨c⟩ gap = some ⟨nearS gap c⟩ := by
  unfold ranges_Set_Near.f
  have e : loopL (fun (s : (List api_Span) × Int) => ranges_Set_Near.l0B ⟨c⟩ gap s.1 s.2) (([] : List api_Span), 0) = some (foldE (fun o x => .inr (onLast (fun t => decide (IntKind.i64.wrap (x.From - t.To) ≤ gap)) (fun t => ⟨t.From, x.To⟩) x o)) (fun o => ranges_Set_Near.l0X.x0 o) c []) := by
    refine loop_list0 c (fun (o : List api_Span) i => (o, (i : Int))) _ _ (fun i o => o.length ≤ i) (fun i o x hi ho hx => ?_) (fun o ho => ?_) (by simp) rfl
    · have hw : IntKind.i64.wrap ((i : Int) + 1) = ((i + 1 : Nat) : Int) := wrap_succ (by omega)
      have h1 : decide ((i : Int) < (c.length : Int)) = true := by simp only [decide_eq_true_eq]; omega
      have hr : (o.length + 1) * 16 ≤ room := room_ok (by omega)
      have hlast := last_step (c := fun t => decide (IntKind.i64.wrap (x.From - t.To) ≤ gap)) (f := fun t => ⟨t.From, x.To⟩) (n := x) (out := o) (by omega) (fun o' => some (Step.next (E := ranges_Set_Near.l0X) (o', ((i + 1 : Nat) : Int)))) rfl rfl
      refine ⟨?_, by have := onLast_length (c := fun t => decide (IntKind.i64.wrap (x.From - t.To) ≤ gap)) (f := fun t => ⟨t.From, x.To⟩) (n := x) (out := o); omega⟩
      simp only [ranges_Set_Near.l0B, hw, h1, idx_nat (l := c), hx, bd, if_pos hr, cond_true]
      exact hlast
    · simp [ranges_Set_Near.l0B]
  rw [e, foldE_inr]
  rfl
def nearF (gap : Int) : api_Span → List api_Span → List api_Span
  | cur, [] => [cur]
  | cur, x :: r => if x.From - cur.To ≤ gap then nearF gap ⟨cur.From, x.To⟩ r else cur :: nearF gap x r
def gapm (gap : Int) (x : Int) : Int → List api_Span → Prop
  | _, [] => False
  | p, t :: r => (t.From - p ≤ gap ∧ p ≤ x ∧ x < t.From) ∨ gapm gap x t.To r
def Sep (gap : Int) : Int → List api_Span → Prop
  | _, [] => True
  | p, t :: r => ¬ t.From - p ≤ gap ∧ Sep gap t.To r

theorem wrap_gap {a b : Int} (h1 : 0 ≤ a) (h2 : a ≤ top) (h3 : 0 ≤ b) (h4 : b ≤ top) : IntKind.i64.wrap (a - b) = a - b := by
  have ht : top = 4611686018427387904 := rfl
  exact wrap64_id (by omega) (by omega)
theorem near_fold (gap : Int) : ∀ (r : List api_Span) (i : List api_Span) (cur : api_Span), Canon (cur :: r) →
    r.foldl (fun o x => onLast (fun t => decide (IntKind.i64.wrap (x.From - t.To) ≤ gap)) (fun t => ⟨t.From, x.To⟩) x o) (i ++ [cur]) = i ++ nearF gap cur r
  | [], i, cur, _ => rfl
  | x :: r, i, cur, h => by
    have hx := h.tail.head
    have hcur := h.head
    have hb := h.behind (List.mem_cons_self (a := x) (l := r))
    rw [List.foldl_cons, onLast_snoc, wrap_gap hx.lo (by have := hx.lt; have := hx.hi; omega) (by have := hcur.lt; have := hcur.lo; omega) hcur.hi]
    simp only [decide_eq_true_eq]
    unfold nearF
    by_cases q : x.From - cur.To ≤ gap
    · rw [if_pos q, if_pos q]
      refine near_fold gap r i ⟨cur.From, x.To⟩ ⟨fun s hs => ?_, List.pairwise_cons.2 ⟨fun s hs => h.tail.behind hs, h.tail.tail.apart⟩⟩
      rcases List.mem_cons.1 hs with rfl | hs
      · exact ⟨hcur.lo, by have := hcur.lt; have := hx.lt; simp only; omega, hx.hi⟩
      · exact h.tail.tail.good s hs
    · rw [if_neg q, if_neg q, near_fold gap r (i ++ [cur]) x h.tail]; simp
theorem canon_merge {cur x : api_Span} {r : List api_Span} (h : Canon (cur :: x :: r)) : Canon (⟨cur.From, x.To⟩ :: r) := by
  have hx := h.tail.head
  have hcur := h.head
  have hb := h.behind (List.mem_cons_self (a := x) (l := r))
  refine ⟨fun s hs => ?_, List.pairwise_cons.2 ⟨fun s hs => h.tail.behind hs, h.tail.tail.apart⟩⟩
  rcases List.mem_cons.1 hs with rfl | hs
  · exact ⟨hcur.lo, by have := hcur.lt; have := hx.lt; simp only; omega, hx.hi⟩
  · exact h.tail.tail.good s hs
theorem nearF_ok (gap : Int) : ∀ (r : List api_Span) (cur : api_Span), Canon (cur :: r) →
    Canon (nearF gap cur r) ∧ (∀ s ∈ nearF gap cur r, cur.From ≤ s.From) ∧ (∀ y, mem (nearF gap cur r) y ↔ mem (cur :: r) y ∨ gapm gap y cur.To r) ∧ (∃ hd tl, nearF gap cur r = hd :: tl ∧ Sep gap hd.To tl)
  | [], cur, h => ⟨h, fun s hs => by rw [nearF, List.mem_singleton] at hs; subst hs; exact Int.le_refl _, fun y => ⟨.inl, fun h => h.elim id (fun h => h.elim)⟩, cur, [], rfl, trivial⟩
  | x :: r, cur, h => by
    have hx := h.tail.head
    have hcur := h.head
    have hb := h.behind (List.mem_cons_self (a := x) (l := r))
    unfold nearF
    by_cases q : x.From - cur.To ≤ gap
    · rw [if_pos q]
      obtain ⟨q1, q2, q3, q4⟩ := nearF_ok gap r ⟨cur.From, x.To⟩ (canon_merge h)
      refine ⟨q1, q2, fun y => ?_, q4⟩
      rw [q3, mem_cons, mem_cons, mem_cons]
      simp only [gapm]
      constructor
      · rintro ((⟨p1, p2⟩ | p) | p)
        · by_cases y1 : y < cur.To
          · exact .inl (.inl ⟨p1, y1⟩)
          · by_cases y2 : y < x.From
            · exact .inr (.inl ⟨q, by omega, y2⟩)
            · exact .inl (.inr (.inl ⟨by omega, p2⟩))
        · exact .inl (.inr (.inr p))
        · exact .inr (.inr p)
      · have := hcur.lt
        have := hx.lt
        rintro ((⟨p1, p2⟩ | ⟨p1, p2⟩ | p) | (⟨_, p1, p2⟩ | p))
        · exact .inl (.inl ⟨p1, by omega⟩)
        · exact .inl (.inl ⟨by omega, p2⟩)
        · exact .inl (.inr p)
        · exact .inl (.inl ⟨by omega, by omega⟩)
        · exact .inr p
    · rw [if_neg q]
      obtain ⟨q1, q2, q3, q4⟩ := nearF_ok gap r x h.tail
      have hcl := hcur.lt
      refine ⟨⟨fun s hs => ?_, List.pairwise_cons.2 ⟨fun s hs => by have := q2 s hs; omega, q1.apart⟩⟩, fun s hs => ?_, fun y => ?_, cur, nearF gap x r, rfl, ?_⟩
      · rcases List.mem_cons.1 hs with rfl | hs
        · exact hcur
        · exact q1.good s hs
      · rcases List.mem_cons.1 hs with rfl | hs
        · exact Int.le_refl _
        · have := q2 s hs; omega
      · rw [mem_cons, q3, mem_cons (s := cur) (l := x :: r)]
        simp only [gapm]
        constructor
        · rintro (p | p | p)
          · exact .inl (.inl p)
          · exact .inl (.inr p)
          · exact .inr (.inr p)
        · rintro ((p | p) | (p | p))
          · exact .inl p
          · exact .inr (.inl p)
          · exact absurd p.1 q
          · exact .inr (.inr p)
      · obtain ⟨hd, tl, e1, e2⟩ := q4
        rw [e1]
        have hm : hd ∈ nearF gap x r := by rw [e1]; exact List.mem_cons_self
        refine ⟨?_, e2⟩
        have := q2 hd hm; omega
theorem nearF_sep (gap : Int) : ∀ (r : List api_Span) (cur : api_Span), Sep gap cur.To r → nearF gap cur r = cur :: r
  | [], cur, _ => rfl
  | x :: r, cur, h => by
    unfold nearF
    rw [if_neg h.1, nearF_sep gap r x h.2]
theorem nearS_cons {gap : Int} {cur : api_Span} {r : List api_Span} (h : Canon (cur :: r)) : nearS gap (cur :: r) = nearF gap cur r := by
  unfold nearS
  rw [List.foldl_cons, onLast_nil]
  have := near_fold gap r [] cur h
  simpa using this
theorem nearS_canon {gap : Int} : ∀ {c : List api_Span}, Canon c → Canon (nearS gap c)
  | [], h => h
  | cur :: r, h => by rw [nearS_cons h]; exact (nearF_ok gap r cur h).1
theorem nearS_again {gap : Int} : ∀ {c : List api_Span}, Canon c → nearS gap (nearS gap c) = nearS gap c
  | [], h => rfl
  | cur :: r, h => by
    rw [nearS_cons h]
    obtain ⟨q1, _, _, hd, tl, e1, e2⟩ := nearF_ok gap r cur h
    rw [e1] at q1 ⊢
    rw [nearS_cons q1, nearF_sep gap tl hd e2]
theorem nearS_length (gap : Int) (c : List api_Span) : (nearS gap c).length ≤ c.length := by
  have main : ∀ (m out : List api_Span), (m.foldl (fun o x => onLast (fun t => decide (IntKind.i64.wrap (x.From - t.To) ≤ gap)) (fun t => ⟨t.From, x.To⟩) x o) out).length ≤ out.length + m.length := by
    intro m
    induction m with
    | nil => intro out; simp
    | cons x m ih =>
      intro out
      have h1 := ih (onLast (fun t => decide (IntKind.i64.wrap (x.From - t.To) ≤ gap)) (fun t => ⟨t.From, x.To⟩) x out)
      have h2 := onLast_length (c := fun t => decide (IntKind.i64.wrap (x.From - t.To) ≤ gap)) (f := fun t => ⟨t.From, x.To⟩) (n := x) (out := out)
      simp only [List.foldl_cons, List.length_cons]; omega
  have := main c []
  simpa [nearS] using this

/-! the document's -/
def gapsF (gap : Int) : Int → List api_Span → List api_Span
  | _, [] => []
  | p, t :: r => (if IntKind.i64.wrap (t.From - p) ≤ gap then [⟨p, t.From⟩] else []) ++ gapsF gap t.To r
def gapStep (gap : Int) (o : List api_Span) (p : api_Span × api_Span) : List api_Span := if IntKind.i64.wrap (p.2.From - p.1.To) ≤ gap then o ++ [⟨p.1.To, p.2.From⟩] else o
theorem gap_fold (gap : Int) : ∀ (r : List api_Span) (s : api_Span) (o : List api_Span), ((s :: r).zip r).foldl (gapStep gap) o = o ++ gapsF gap s.To r
  | [], s, o => by simp [gapsF]
  | t :: r, s, o => by
    rw [List.zip_cons_cons, List.foldl_cons, gap_fold gap r t]
    by_cases q : IntKind.i64.wrap (t.From - s.To) ≤ gap <;> simp [q, gapsF, gapStep]
theorem gapsF_len (gap : Int) : ∀ (r : List api_Span) (p : Int), (gapsF gap p r).length ≤ r.length
  | [], p => by simp [gapsF]
  | t :: r, p => by
    have := gapsF_len gap r t.To
    unfold gapsF
    split <;> simp <;> omega
theorem gapsF_in (gap : Int) (y : Int) : ∀ (r : List api_Span) (s : api_Span), Canon (s :: r) → (InS (gapsF gap s.To r) y = true ↔ gapm gap y s.To r)
  | [], s, _ => by simp [gapsF, InS, gapm]
  | t :: r, s, h => by
    have ht := h.tail.head
    have hs := h.head
    have hb := h.behind (List.mem_cons_self (a := t) (l := r))
    have ih := gapsF_in gap y r t h.tail
    have e : InS (gapsF gap s.To (t :: r)) y = (InS (if IntKind.i64.wrap (t.From - s.To) ≤ gap then [(⟨s.To, t.From⟩ : api_Span)] else []) y || InS (gapsF gap t.To r) y) := by
      rw [gapsF]; simp [InS]
    have hsl := hs.lt
    have hsl2 := hs.lo
    have htl := ht.lt
    have hth := ht.hi
    rw [e, Bool.or_eq_true, ih, wrap_gap ht.lo (by omega) (by omega) hs.hi]
    simp only [gapm]
    refine or_congr ?_ Iff.rfl
    by_cases q : t.From - s.To ≤ gap
    · rw [if_pos q, InS_iff]
      constructor
      · rintro ⟨u, hu, _, p⟩
        rw [List.mem_singleton] at hu
        subst hu
        exact ⟨q, p⟩
      · rintro ⟨_, p⟩
        exact ⟨⟨s.To, t.From⟩, List.mem_singleton_self _, right_iff.2 ⟨by simp only; omega, by simp only; omega, by simp only; omega⟩, p⟩
    · rw [if_neg q]
      simp [InS, q]
theorem ref_Near_eq (c : List api_Span) (gap : Int) (hc : Canon c) (hl : c.length ≤ 400) : mandolineref02_Near.f c gap = some (nearS gap c) := by
  unfold mandolineref02_Near.f
  rw [if_pos (by unfold room; omega)]
  have hlz : (c.zip c.tail).length = c.length - 1 := by simp
  have e : loopL (fun (s : (List api_Span) × Int) => mandolineref02_Near.l0B c gap s.1 s.2) (c, 0) = some (foldE (fun o p => .inr (gapStep gap o p)) (fun o => mandolineref02_Near.l0X.x0 o) (c.zip c.tail) c) := by
    refine loop_list0 (c.zip c.tail) (fun (o : List api_Span) i => (o, (i : Int))) _ _ (fun i o => o.length ≤ c.length + i) (fun i o p hi ho hp => ?_) (fun o ho => ?_) (by simp) rfl
    · have hw : IntKind.i64.wrap ((i : Int) + 1) = ((i + 1 : Nat) : Int) := wrap_succ (by omega)
      have h1 : decide (((i + 1 : Nat) : Int) < (c.length : Int)) = true := by simp only [decide_eq_true_eq]; omega
      obtain ⟨u, v⟩ := p
      have hu : c[i]? = some u ∧ c[i + 1]? = some v := by
        rw [List.getElem?_zip_eq_some] at hp
        obtain ⟨h2, h3⟩ := hp
        simp only at h2 h3
        rw [List.getElem?_tail] at h3
        exact ⟨h2, h3⟩
      have hr : (o.length + 1) * 16 ≤ room := room_ok (by omega)
      refine ⟨?_, by unfold gapStep; split <;> (try simp only [List.length_append, List.length_cons, List.length_nil]) <;> omega⟩
      simp only [mandolineref02_Near.l0B, hw, h1, idx_nat (l := c), hu.1, hu.2, bd, if_pos hr, cond_true, gapStep]
      by_cases q : IntKind.i64.wrap (v.From - u.To) ≤ gap <;> simp [q]
    · have hw : IntKind.i64.wrap (((c.zip c.tail).length : Int) + 1) = (((c.zip c.tail).length + 1 : Nat) : Int) := wrap_succ (by omega)
      have h1 : decide ((((c.zip c.tail).length + 1 : Nat) : Int) < (c.length : Int)) = false := by simp only [decide_eq_false_iff_not]; omega
      simp only [mandolineref02_Near.l0B, hw, h1, cond_false]
  rw [e, foldE_inr]
  simp only [Option.bind_some, mandolineref02_Near.a0]
  cases c with
  | nil => rw [show (([] : List api_Span).zip ([] : List api_Span).tail).foldl (gapStep gap) [] = [] from rfl, ref_Of_eq [] (by simp)]; rfl
  | cons s r =>
    rw [List.tail_cons, gap_fold]
    have hg := gapsF_len gap r s.To
    rw [ref_Of_eq _ (by simp only [List.length_append, List.length_cons] at *; omega)]
    simp only [Option.bind_some]
    congr 1
    refine canon_ext (ofS_canon _) (nearS_canon hc) (fun y => ?_)
    rw [ofS_mem, nearS_cons hc, (nearF_ok gap r s hc).2.2.1, ← gapsF_in gap y r s hc, ← canon_InS hc]
    simp [InS, or_assoc]

theorem law_RangesNear (l : List api_Span) (gap : Int) (hl : l.length ≤ maxLen) : mandolinelaw02_RangesNear.f l gap = some true := by
  unfold mandolinelaw02_RangesNear.f
  rw [wakes_eq, great_eq [l] (by simp [maxLen])]
  simp only [Option.bind_some, cond_true, List.any_cons, List.any_nil, Bool.or_false]
  by_cases h : (20 : Int) < (l.length : Int)
  · simp [h]
  · have hl : l.length ≤ 1000 := by omega
    have hc := ofS_canon l
    have hcl := ofS_length l
    have hnl := nearS_length gap (ofS l)
    rw [ranges_Of_eq l hl, ref_Of_eq l hl]
    simp only [Option.bind_some, h, decide_false, cond_false]
    rw [Near_eq _ gap (by omega), ref_Near_eq _ gap hc (by omega)]
    simp only [Option.bind_some]
    rw [Spans_eq _ (by omega)]
    simp only [Option.bind_some]
    rw [ref_List_eq _ _ (by unfold maxLen; omega), Near_eq _ gap (by omega), nearS_again hc]
    simp only [Option.bind_some, decide_true, cond_true]
    rw [Same_eq _ _ (by unfold maxLen; omega)]
    simp

/-! how many bytes, one by one -/
theorem wrap_two (n a b : Int) : IntKind.i64.wrap (n + IntKind.i64.wrap (a - b)) = IntKind.i64.wrap (IntKind.i64.wrap (n + a) - b) := by
  simp only [IntKind.wrap, IntKind.bits, IntKind.signed]
  simp
  omega
def lenF (n : Int) (x : api_Span) : Unit ⊕ Int := if x.To = top then .inl () else .inr (IntKind.i64.wrap (n + IntKind.i64.wrap (x.To - x.From)))
def lenS : List api_Span → Int → Int
  | [], n => n
  | x :: r, n => if x.To = top then top else lenS r (IntKind.i64.wrap (n + IntKind.i64.wrap (x.To - x.From)))
theorem lenS_fold {E : Type} (x0 : Int → E) (ret : E) (val : E → Option Int) (h0 : ∀ v, val (x0 v) = some v) (h1 : val ret = some top) :
    ∀ (l : List api_Span) (n : Int), val (foldE (fun (n : Int) (x : api_Span) => if x.To = top then .inl ret else .inr (IntKind.i64.wrap (n + IntKind.i64.wrap (x.To - x.From)))) x0 l n) = some (lenS l n)
  | [], n => h0 n
  | x :: r, n => by
    unfold lenS
    simp only [foldE]
    by_cases q : x.To = top
    · rw [if_pos q, if_pos q]; exact h1
    · rw [if_neg q, if_neg q]; exact lenS_fold x0 ret val h0 h1 r _
theorem Len_eq (c : List api_Span) (hc : c.length ≤ maxLen) : ranges_Set_Len.f ⟨c⟩ = some (lenS c 0) := by
  unfold ranges_Set_Len.f
  have e : loopL (fun (s : Int × Int) => ranges_Set_Len.l0B ⟨c⟩ s.1 s.2) (0, 0) = some (foldE (fun (n : Int) (x : api_Span) => if x.To = top then .inl ranges_Set_Len.l0X.ret else .inr (IntKind.i64.wrap (n + IntKind.i64.wrap (x.To - x.From)))) ranges_Set_Len.l0X.x0 c 0) := by
    refine loop_list0 c (fun (n : Int) i => (n, (i : Int))) _ _ (fun _ _ => True) (fun i n x hi _ hx => ?_) (fun n _ => ?_) trivial rfl
    · have hw : IntKind.i64.wrap ((i : Int) + 1) = ((i + 1 : Nat) : Int) := wrap_succ (by unfold maxLen at hc; omega)
      have h1 : decide ((i : Int) < (c.length : Int)) = true := by simp only [decide_eq_true_eq]; omega
      by_cases q : x.To = top
      · rw [if_pos q]
        simp only [ranges_Set_Len.l0B, h1, idx_nat, hx, bd, hw, cond_true]
        rw [decide_eq_true (show x.To = 4611686018427387904 from q)]; rfl
      · rw [if_neg q]
        simp only [ranges_Set_Len.l0B, h1, idx_nat, hx, bd, hw, cond_true]
        rw [decide_eq_false (show ¬ x.To = 4611686018427387904 from q)]; exact ⟨rfl, trivial⟩
    · simp [ranges_Set_Len.l0B]
  rw [e, Option.bind_some]
  exact lenS_fold _ _ ranges_Set_Len.a0 (fun _ => rfl) rfl c 0
theorem ref_Len_eq (c : List api_Span) (hc : c.length ≤ maxLen) : mandolineref02_Len.f c = some (lenS c 0) := by
  unfold mandolineref02_Len.f
  have e : loopL (fun (s : Int × Int) => mandolineref02_Len.l0B c s.1 s.2) (0, 0) = some (foldE (fun (n : Int) (x : api_Span) => if x.To = top then .inl mandolineref02_Len.l0X.ret else .inr (IntKind.i64.wrap (n + IntKind.i64.wrap (x.To - x.From)))) mandolineref02_Len.l0X.x0 c 0) := by
    refine loop_list0 c (fun (n : Int) i => (n, (i : Int))) _ _ (fun _ _ => True) (fun i n x hi _ hx => ?_) (fun n _ => ?_) trivial rfl
    · have hw : IntKind.i64.wrap ((i : Int) + 1) = ((i + 1 : Nat) : Int) := wrap_succ (by unfold maxLen at hc; omega)
      have h1 : decide ((i : Int) < (c.length : Int)) = true := by simp only [decide_eq_true_eq]; omega
      by_cases q : x.To = top
      · rw [if_pos q]
        simp only [mandolineref02_Len.l0B, h1, idx_nat, hx, bd, hw, cond_true]
        rw [decide_eq_true (show x.To = 4611686018427387904 from q)]; rfl
      · rw [if_neg q]
        simp only [mandolineref02_Len.l0B, h1, idx_nat, hx, bd, hw, cond_true, ← wrap_two]
        rw [decide_eq_false (show ¬ x.To = 4611686018427387904 from q)]; exact ⟨rfl, trivial⟩
    · simp [mandolineref02_Len.l0B]
  rw [e, Option.bind_some]
  exact lenS_fold _ _ mandolineref02_Len.a0 (fun _ => rfl) rfl c 0

theorem law_RangesOf (l : List api_Span) (hl : l.length ≤ maxLen) : mandolinelaw02_RangesOf.f l = some true := by
  unfold mandolinelaw02_RangesOf.f
  rw [wakes_eq, great_eq [l] (by simp [maxLen])]
  simp only [Option.bind_some, cond_true, List.any_cons, List.any_nil, Bool.or_false]
  by_cases h : (20 : Int) < (l.length : Int)
  · simp [h]
  · have hl : l.length ≤ 1000 := by omega
    have hcl := ofS_length l
    rw [ranges_Of_eq l hl, ref_Of_eq l hl]
    simp only [Option.bind_some, h, decide_false, cond_false]
    generalize ofS l = c at hcl
    have e : loopL (fun (s : Int × (List api_Span)) => mandolinelaw02_RangesOf.l0B ⟨c⟩ c s.1 s.2) (0, ([] : List api_Span)) = some (foldE (fun o x => .inr (o ++ [x])) (fun o => mandolinelaw02_RangesOf.l0X.x0 o) c []) := by
      refine loop_list0 c (fun (o : List api_Span) i => ((i : Int), o)) _ _ (fun i o => o.length = i) (fun i o x hi ho hx => ?_) (fun o ho => ?_) rfl rfl
      · have hw : IntKind.i64.wrap ((i : Int) + 1) = ((i + 1 : Nat) : Int) := wrap_succ (by omega)
        have h1 : decide ((i : Int) < (c.length : Int)) = true := by simp only [decide_eq_true_eq]; omega
        have hr : (o.length + 1) * 16 ≤ room := room_ok (by omega)
        have h2 : decide (((o ++ [x]).length : Int) ≤ (c.length : Int)) = true := by simp only [decide_eq_true_eq, List.length_append, List.length_cons, List.length_nil]; omega
        refine ⟨?_, by simp [ho]⟩
        simp only [mandolinelaw02_RangesOf.l0B, h1, idx_nat, hx, bd, hw, if_pos hr, h2, cond_true]
      · simp [mandolinelaw02_RangesOf.l0B]
    have hfold : ∀ (m o : List api_Span), m.foldl (fun o x => o ++ [x]) o = o ++ m := by
      intro m
      induction m with
      | nil => intro o; simp
      | cons x m ih => intro o; rw [List.foldl_cons, ih]; simp
    rw [e, foldE_inr, hfold, List.nil_append]
    have hm : c.length ≤ maxLen := by unfold maxLen; omega
    simp only [Option.bind_some, mandolinelaw02_RangesOf.a0]
    rw [Spans_eq _ (by omega)]
    simp only [Option.bind_some]
    rw [ref_List_eq _ _ hm]
    simp only [Option.bind_some, decide_true, cond_true]
    rw [Len_eq _ hm, ref_Len_eq _ hm]
    simp
end Go.Proofs.YtcahamgecejmnaaDoor
