/-
  What two sets both have, and what one has without the other, told plainly over lists of spans. Its conditions: none.
-/
import Derived.Test.YtcahamgecejmnaaDoorPureSet
namespace Go.Proofs.YtcahamgecejmnaaDoor
open Go Go.Den
set_option linter.unusedSimpArgs false
set_option linter.unusedVariables false

theorem canon_append {m r : List api_Span} (hm : Canon m) (hr : Canon r) (h : ∀ s ∈ m, ∀ t ∈ r, s.To < t.From) : Canon (m ++ r) :=
  ⟨fun s hs => by rcases List.mem_append.1 hs with hs | hs; exact hm.good s hs; exact hr.good s hs, List.pairwise_append.2 ⟨hm.apart, hr.apart, h⟩⟩
theorem canon_one {s : api_Span} (h : Good s) : Canon [s] := ⟨fun t ht => by rw [List.mem_singleton] at ht; rw [ht]; exact h, List.pairwise_singleton _ _⟩
theorem mem_behind {t : api_Span} {b : List api_Span} (h : Canon (t :: b)) {z : Int} (hz : mem b z) : t.To < z := by
  obtain ⟨s, hs, h1, _⟩ := hz
  have := h.behind hs
  omega
theorem canon_sub {l m : List api_Span} (h : Canon l) (hs : m.Sublist l) : Canon m := ⟨fun s hm => h.good s (hs.subset hm), h.apart.sublist hs⟩

/-! both -/
def meetS (x y : api_Span) : List api_Span :=
  if (if x.From < y.From then y.From else x.From) < (if y.To < x.To then y.To else x.To) then [⟨if x.From < y.From then y.From else x.From, if y.To < x.To then y.To else x.To⟩] else []
theorem meetS_ok {x y : api_Span} (hx : Good x) (hy : Good y) : Canon (meetS x y) ∧ (∀ s ∈ meetS x y, x.From ≤ s.From ∧ y.From ≤ s.From ∧ s.To ≤ x.To ∧ s.To ≤ y.To) ∧
    ∀ z, mem (meetS x y) z ↔ (x.From ≤ z ∧ z < x.To) ∧ (y.From ≤ z ∧ z < y.To) := by
  have x1 := hx.lo; have x2 := hx.lt; have x3 := hx.hi
  have y1 := hy.lo; have y2 := hy.lt; have y3 := hy.hi
  unfold meetS
  generalize hf : (if x.From < y.From then y.From else x.From) = f
  generalize ht : (if y.To < x.To then y.To else x.To) = t
  have f1 : x.From ≤ f ∧ y.From ≤ f ∧ (f = x.From ∨ f = y.From) := by
    split at hf <;> omega
  have t1 : t ≤ x.To ∧ t ≤ y.To ∧ (t = x.To ∨ t = y.To) := by
    split at ht <;> omega
  by_cases h : f < t
  · rw [if_pos h]
    refine ⟨canon_one ⟨by simp only; omega, h, by simp only; omega⟩, fun s hs => ?_, fun z => ?_⟩
    · rw [List.mem_singleton] at hs
      subst hs
      exact ⟨f1.1, f1.2.1, t1.1, t1.2.1⟩
    · rw [mem_one]
      simp only
      omega
  · rw [if_neg h]
    refine ⟨canon_nil, fun s hs => (by cases hs), fun z => ⟨fun hz => absurd hz mem_nil, fun hz => by omega⟩⟩
def andF : List api_Span → List api_Span → List api_Span
  | [], _ => []
  | _ :: _, [] => []
  | x :: a, y :: b => meetS x y ++ (if x.To < y.To then andF a (y :: b) else andF (x :: a) b)
termination_by a b => a.length + b.length
decreasing_by all_goals (simp only [List.length_cons]; omega)
theorem andF_nil (a : List api_Span) : andF a [] = [] := by
  cases a <;> simp [andF]
theorem andF_ok : ∀ (n : Nat) (a b : List api_Span), a.length + b.length = n → Canon a → Canon b → Canon (andF a b) ∧ (∀ p, (∀ x ∈ a, p < x.From) → ∀ t ∈ andF a b, p < t.From) ∧
    (∀ p, (∀ y ∈ b, p < y.From) → ∀ t ∈ andF a b, p < t.From) ∧ ∀ z, mem (andF a b) z ↔ mem a z ∧ mem b z := by
  intro n
  induction n using Nat.strongRecOn with
  | ind n ih =>
    intro a b hn ha hb
    cases a with
    | nil =>
      have e : andF [] b = [] := by simp [andF]
      rw [e]
      exact ⟨canon_nil, fun _ _ t ht => (by cases ht), fun _ _ t ht => (by cases ht), fun z => ⟨fun h => absurd h mem_nil, fun h => absurd h.1 mem_nil⟩⟩
    | cons x a =>
      cases b with
      | nil =>
        rw [andF_nil]
        exact ⟨canon_nil, fun _ _ t ht => (by cases ht), fun _ _ t ht => (by cases ht), fun z => ⟨fun h => absurd h mem_nil, fun h => absurd h.2 mem_nil⟩⟩
      | cons y b =>
        obtain ⟨m1, m2, m3⟩ := meetS_ok ha.head hb.head
        have e : andF (x :: a) (y :: b) = meetS x y ++ (if x.To < y.To then andF a (y :: b) else andF (x :: a) b) := by rw [andF]
        rw [e]
        simp only [List.length_cons] at hn
        by_cases h : x.To < y.To
        · rw [if_pos h]
          obtain ⟨r1, r2, r3, r4⟩ := ih (a.length + (y :: b).length) (by simp only [List.length_cons]; omega) a (y :: b) rfl ha.tail hb
          refine ⟨canon_append m1 r1 (fun s hs t ht => ?_), fun p hp t ht => ?_, fun p hp t ht => ?_, fun z => ?_⟩
          · have q1 := m2 s hs
            have q2 := r2 x.To (fun x' hx' => ha.behind hx') t ht
            omega
          · rcases List.mem_append.1 ht with ht | ht
            · have q1 := m2 t ht
              have q2 := hp x List.mem_cons_self
              omega
            · exact r2 p (fun x' hx' => hp x' (List.mem_cons_of_mem _ hx')) t ht
          · rcases List.mem_append.1 ht with ht | ht
            · have q1 := m2 t ht
              have q2 := hp y List.mem_cons_self
              omega
            · exact r3 p hp t ht
          · rw [mem_append, m3, r4, mem_cons, mem_cons]
            constructor
            · rintro (⟨p, q⟩ | ⟨p, q⟩)
              · exact ⟨.inl p, .inl q⟩
              · exact ⟨.inr p, q⟩
            · rintro ⟨p | p, q⟩
              · rcases q with q | q
                · exact .inl ⟨p, q⟩
                · have := mem_behind hb q; omega
              · exact .inr ⟨p, q⟩
        · rw [if_neg h]
          obtain ⟨r1, r2, r3, r4⟩ := ih ((x :: a).length + b.length) (by simp only [List.length_cons]; omega) (x :: a) b rfl ha hb.tail
          refine ⟨canon_append m1 r1 (fun s hs t ht => ?_), fun p hp t ht => ?_, fun p hp t ht => ?_, fun z => ?_⟩
          · have q1 := m2 s hs
            have q2 := r3 y.To (fun y' hy' => hb.behind hy') t ht
            omega
          · rcases List.mem_append.1 ht with ht | ht
            · have q1 := m2 t ht
              have q2 := hp x List.mem_cons_self
              omega
            · exact r2 p hp t ht
          · rcases List.mem_append.1 ht with ht | ht
            · have q1 := m2 t ht
              have q2 := hp y List.mem_cons_self
              omega
            · exact r3 p (fun y' hy' => hp y' (List.mem_cons_of_mem _ hy')) t ht
          · rw [mem_append, m3, r4, mem_cons, mem_cons]
            constructor
            · rintro (⟨p, q⟩ | ⟨p, q⟩)
              · exact ⟨.inl p, .inl q⟩
              · exact ⟨p, .inr q⟩
            · rintro ⟨p, q | q⟩
              · rcases p with p | p
                · exact .inl ⟨p, q⟩
                · have := mem_behind ha p; omega
              · exact .inr ⟨p, q⟩

/-! one without the other -/
def cutF (to : Int) : Int → List api_Span → List api_Span
  | f, [] => if f < to then [⟨f, to⟩] else []
  | f, t :: b => if t.From < to then (if f < t.From then [⟨f, t.From⟩] else []) ++ cutF to (if to < t.To then to else t.To) b else if f < to then [⟨f, to⟩] else []
theorem whole_ok {f to : Int} (h0 : 0 ≤ f) (ht : to ≤ top) : Canon (if f < to then [(⟨f, to⟩ : api_Span)] else []) ∧ (∀ s ∈ (if f < to then [(⟨f, to⟩ : api_Span)] else []), f ≤ s.From ∧ s.To ≤ to) ∧
    ∀ z, mem (if f < to then [(⟨f, to⟩ : api_Span)] else []) z ↔ f ≤ z ∧ z < to := by
  by_cases h : f < to
  · rw [if_pos h]
    refine ⟨canon_one ⟨h0, h, ht⟩, fun s hs => ?_, fun z => mem_one⟩
    rw [List.mem_singleton] at hs
    subst hs
    exact ⟨Int.le_refl _, Int.le_refl _⟩
  · rw [if_neg h]
    exact ⟨canon_nil, fun s hs => (by cases hs), fun z => ⟨fun hz => absurd hz mem_nil, fun hz => by omega⟩⟩
theorem cutF_ok {to : Int} (hto : to ≤ top) : ∀ (b : List api_Span) (f : Int), 0 ≤ f → Canon b → (∀ t ∈ b, f < t.To) → Canon (cutF to f b) ∧ (∀ s ∈ cutF to f b, f ≤ s.From ∧ s.To ≤ to) ∧
    ∀ z, mem (cutF to f b) z ↔ (f ≤ z ∧ z < to) ∧ ¬ mem b z
  | [], f, h0, hb, hf => by
    obtain ⟨w1, w2, w3⟩ := whole_ok (f := f) h0 hto
    rw [cutF]
    exact ⟨w1, w2, fun z => (w3 z).trans ⟨fun h => ⟨h, mem_nil⟩, fun h => h.1⟩⟩
  | t :: b, f, h0, hb, hf => by
    have g1 := hb.head.lo; have g2 := hb.head.lt; have g3 := hb.head.hi
    have hft := hf t List.mem_cons_self
    rw [cutF]
    by_cases h : t.From < to
    · rw [if_pos h]
      obtain ⟨w1, w2, w3⟩ := whole_ok (f := f) (to := t.From) h0 (by omega)
      generalize hn : (if to < t.To then to else t.To) = n
      have hn1 : n ≤ t.To ∧ n ≤ to ∧ t.From < n ∧ (n = to ∨ n = t.To) := by
        split at hn <;> omega
      obtain ⟨r1, r2, r3⟩ := cutF_ok hto b n (by omega) hb.tail (fun s hs => by
        have := hb.behind hs
        have := (hb.tail.good s hs).lt
        omega)
      refine ⟨canon_append w1 r1 (fun s hs u hu => ?_), fun s hs => ?_, fun z => ?_⟩
      · have := w2 s hs
        have := r2 u hu
        omega
      · rcases List.mem_append.1 hs with hs | hs
        · have := w2 s hs; omega
        · have q := r2 s hs
          by_cases hlt : f < t.From
          · omega
          · refine ⟨?_, q.2⟩
            by_cases hc : n = t.To
            · omega
            · have q3 := (r1.good s hs).lt
              omega
      · rw [mem_append, w3, r3, mem_cons]
        constructor
        · rintro (p | ⟨p, q⟩)
          · refine ⟨by omega, ?_⟩
            rintro (u | u)
            · omega
            · have := mem_behind hb u; omega
          · refine ⟨by omega, ?_⟩
            rintro (u | u)
            · omega
            · exact q u
        · rintro ⟨p, q⟩
          by_cases hz : z < t.From
          · exact .inl (by omega)
          · refine .inr ⟨?_, fun u => q (.inr u)⟩
            by_cases hz2 : z < t.To
            · exact absurd (.inl ⟨by omega, hz2⟩) q
            · omega
    · rw [if_neg h]
      obtain ⟨w1, w2, w3⟩ := whole_ok (f := f) h0 hto
      refine ⟨w1, w2, fun z => (w3 z).trans ⟨fun p => ⟨p, fun u => ?_⟩, fun p => p.1⟩⟩
      rcases mem_cons.1 u with u | u
      · omega
      · have := mem_behind hb u; omega
def pastS (f : Int) (b : List api_Span) : List api_Span := b.dropWhile fun t => decide (t.To ≤ f)
theorem pastS_sub (f : Int) (b : List api_Span) : (pastS f b).Sublist b := List.dropWhile_sublist _
theorem pastS_ok (f : Int) : ∀ (b : List api_Span), Canon b → (∀ t ∈ pastS f b, f < t.To) ∧ ∀ z, f ≤ z → (mem (pastS f b) z ↔ mem b z)
  | [], _ => ⟨fun t ht => (by cases ht), fun z _ => Iff.rfl⟩
  | t :: r, h => by
    by_cases q : t.To ≤ f
    · have e : pastS f (t :: r) = pastS f r := by simp [pastS, List.dropWhile_cons, q]
      rw [e]
      obtain ⟨r1, r2⟩ := pastS_ok f r h.tail
      refine ⟨r1, fun z hz => (r2 z hz).trans ?_⟩
      rw [mem_cons]
      exact ⟨.inr, fun u => u.resolve_left (by omega)⟩
    · have e : pastS f (t :: r) = t :: r := by simp [pastS, List.dropWhile_cons, q]
      rw [e]
      refine ⟨fun s hs => ?_, fun z _ => Iff.rfl⟩
      rcases List.mem_cons.1 hs with rfl | hs
      · omega
      · have := h.behind hs
        have := (h.tail.good s hs).lt
        omega
def lessF : List api_Span → List api_Span → List api_Span
  | [], _ => []
  | x :: a, b => cutF x.To x.From (pastS x.From b) ++ lessF a (pastS x.From b)
theorem lessF_ok : ∀ (a b : List api_Span), Canon a → Canon b → Canon (lessF a b) ∧ (∀ p, (∀ x ∈ a, p < x.From) → ∀ t ∈ lessF a b, p < t.From) ∧ ∀ z, mem (lessF a b) z ↔ mem a z ∧ ¬ mem b z
  | [], b, ha, hb => ⟨canon_nil, fun _ _ t ht => (by cases ht), fun z => ⟨fun h => absurd h mem_nil, fun h => absurd h.1 mem_nil⟩⟩
  | x :: a, b, ha, hb => by
    have g1 := ha.head.lo; have g2 := ha.head.lt; have g3 := ha.head.hi
    have hp := canon_sub hb (pastS_sub x.From b)
    obtain ⟨p1, p2⟩ := pastS_ok x.From b hb
    obtain ⟨c1, c2, c3⟩ := cutF_ok g3 (pastS x.From b) x.From g1 hp p1
    obtain ⟨r1, r2, r3⟩ := lessF_ok a (pastS x.From b) ha.tail hp
    rw [lessF]
    refine ⟨canon_append c1 r1 (fun s hs t ht => ?_), fun p hp t ht => ?_, fun z => ?_⟩
    · have q1 := c2 s hs
      have q2 := r2 x.To (fun y hy => ha.behind hy) t ht
      omega
    · rcases List.mem_append.1 ht with ht | ht
      · have q1 := c2 t ht
        have q2 := hp x List.mem_cons_self
        omega
      · exact r2 p (fun y hy => hp y (List.mem_cons_of_mem _ hy)) t ht
    · rw [mem_append, c3, r3, mem_cons]
      constructor
      · rintro (⟨u, v⟩ | ⟨u, v⟩)
        · exact ⟨.inl u, fun w => v ((p2 z u.1).2 w)⟩
        · have := mem_behind ha u
          exact ⟨.inr u, fun w => v ((p2 z (by omega)).2 w)⟩
      · rintro ⟨u | u, v⟩
        · exact .inl ⟨u, fun w => v ((p2 z u.1).1 w)⟩
        · have := mem_behind ha u
          exact .inr ⟨u, fun w => v ((p2 z (by omega)).1 w)⟩
end Go.Proofs.YtcahamgecejmnaaDoor
