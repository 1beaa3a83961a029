/-
  Sets of bytes as lists of spans, told plainly: which list stands for a set. Its conditions: none.
-/
import Derived.Test.YtcahamgecejmnaaDoorNat
import Derived.Test.YtcahamgecejmnaaDoorDenPure
namespace Go.Proofs.YtcahamgecejmnaaDoor
open Go Go.Den
set_option linter.unusedSimpArgs false
set_option linter.unusedVariables false

abbrev top : Int := 4611686018427387904
def rightS (s : api_Span) : Bool := decide (0 ≤ s.From) && (decide (s.From ≤ s.To) && decide (s.To ≤ top))
structure Good (s : api_Span) : Prop where
  lo : 0 ≤ s.From
  lt : s.From < s.To
  hi : s.To ≤ top
def mem (l : List api_Span) (x : Int) : Prop := ∃ s ∈ l, s.From ≤ x ∧ x < s.To
structure Canon (l : List api_Span) : Prop where
  good : ∀ s ∈ l, Good s
  apart : l.Pairwise fun a b => a.To < b.From

theorem right_iff {s : api_Span} : rightS s = true ↔ 0 ≤ s.From ∧ s.From ≤ s.To ∧ s.To ≤ top := by simp [rightS]
theorem Good.right {s : api_Span} (h : Good s) : rightS s = true := right_iff.2 ⟨h.lo, Int.le_of_lt h.lt, h.hi⟩
theorem mem_nil {x : Int} : ¬ mem [] x := by rintro ⟨s, hs, _⟩; cases hs
theorem mem_append {a b : List api_Span} {x : Int} : mem (a ++ b) x ↔ mem a x ∨ mem b x := by
  constructor
  · rintro ⟨s, hs, h⟩
    rcases List.mem_append.1 hs with hs | hs
    · exact .inl ⟨s, hs, h⟩
    · exact .inr ⟨s, hs, h⟩
  · rintro (⟨s, hs, h⟩ | ⟨s, hs, h⟩)
    · exact ⟨s, List.mem_append_left _ hs, h⟩
    · exact ⟨s, List.mem_append_right _ hs, h⟩
theorem mem_one {s : api_Span} {x : Int} : mem [s] x ↔ s.From ≤ x ∧ x < s.To := by
  constructor
  · rintro ⟨t, ht, h⟩; rw [List.mem_singleton] at ht; subst ht; exact h
  · intro h; exact ⟨s, List.mem_singleton_self s, h⟩
theorem mem_cons {s : api_Span} {l : List api_Span} {x : Int} : mem (s :: l) x ↔ (s.From ≤ x ∧ x < s.To) ∨ mem l x := by
  rw [← mem_one, ← mem_append]; rfl
theorem canon_nil : Canon [] := ⟨fun _ h => (by cases h), List.Pairwise.nil⟩
theorem Canon.tail {a : api_Span} {l : List api_Span} (h : Canon (a :: l)) : Canon l := ⟨fun s hs => h.good s (List.mem_cons_of_mem _ hs), (List.pairwise_cons.1 h.apart).2⟩
theorem Canon.head {a : api_Span} {l : List api_Span} (h : Canon (a :: l)) : Good a := h.good a List.mem_cons_self
theorem Canon.behind {a : api_Span} {l : List api_Span} (h : Canon (a :: l)) {s : api_Span} (hs : s ∈ l) : a.To < s.From := (List.pairwise_cons.1 h.apart).1 s hs
theorem canon_snoc {l : List api_Span} {s : api_Span} : Canon (l ++ [s]) ↔ Canon l ∧ Good s ∧ ∀ t ∈ l, t.To < s.From := by
  constructor
  · intro h
    have h2 := List.pairwise_append.1 h.apart
    exact ⟨⟨fun t ht => h.good t (List.mem_append_left _ ht), h2.1⟩, h.good s (List.mem_append_right _ (List.mem_singleton_self s)), fun t ht => h2.2.2 t ht s (List.mem_singleton_self s)⟩
  · rintro ⟨h1, h2, h3⟩
    refine ⟨fun t ht => ?_, List.pairwise_append.2 ⟨h1.apart, List.pairwise_singleton _ _, fun t ht u hu => ?_⟩⟩
    · rcases List.mem_append.1 ht with ht | ht
      · exact h1.good t ht
      · rw [List.mem_singleton] at ht; subst ht; exact h2
    · rw [List.mem_singleton] at hu; subst hu; exact h3 t ht

/-- One list stands for a set. -/
theorem canon_ext : ∀ {l m : List api_Span}, Canon l → Canon m → (∀ x, mem l x ↔ mem m x) → l = m
  | [], [], _, _, _ => rfl
  | [], b :: m, _, hm, h => absurd ((h b.From).2 ⟨b, List.mem_cons_self, Int.le_refl _, hm.head.lt⟩) mem_nil
  | a :: l, [], hl, _, h => absurd ((h a.From).1 ⟨a, List.mem_cons_self, Int.le_refl _, hl.head.lt⟩) mem_nil
  | a :: l, b :: m, hl, hm, h => by
    have ha := hl.head
    have hb := hm.head
    have low : ∀ {c : api_Span} {k : List api_Span} {x : Int}, Canon (c :: k) → mem (c :: k) x → c.From ≤ x := by
      rintro c k x hc ⟨s, hs, h1, h2⟩
      rcases List.mem_cons.1 hs with rfl | hs
      · exact h1
      · have := hc.behind hs; have := hc.head.lt; omega
    have hF : a.From = b.From := by
      have h1 := low hm ((h a.From).1 ⟨a, List.mem_cons_self, Int.le_refl _, ha.lt⟩)
      have h2 := low hl ((h b.From).2 ⟨b, List.mem_cons_self, Int.le_refl _, hb.lt⟩)
      omega
    have stop : ∀ {c : api_Span} {k : List api_Span}, Canon (c :: k) → ¬ mem (c :: k) c.To := by
      rintro c k hc ⟨s, hs, h1, h2⟩
      rcases List.mem_cons.1 hs with rfl | hs
      · omega
      · have := hc.behind hs; omega
    have hT : a.To = b.To := by
      rcases Int.lt_trichotomy a.To b.To with h1 | h1 | h1
      · exact absurd ((h a.To).2 ⟨b, List.mem_cons_self, by have := ha.lt; omega, h1⟩) (stop hl)
      · exact h1
      · exact absurd ((h b.To).1 ⟨a, List.mem_cons_self, by have := hb.lt; omega, h1⟩) (stop hm)
    have hab : a = b := by cases a; cases b; simp only at hF hT; rw [hF, hT]
    subst hab
    have tl : ∀ {k n : List api_Span} {x : Int}, Canon (a :: k) → (mem (a :: k) x → mem (a :: n) x) → mem k x → mem n x := by
      intro k n x hk hh hx
      rcases mem_cons.1 (hh (mem_cons.2 (.inr hx))) with h1 | h1
      · obtain ⟨s, hs, h2, h3⟩ := hx
        have := hk.behind hs; omega
      · exact h1
    rw [canon_ext hl.tail hm.tail (fun x => ⟨tl hl (h x).1, tl hm (h x).2⟩)]

/-! ### the last one is changed, or one is put behind it -/
def onLast (c : api_Span → Bool) (f : api_Span → api_Span) (n : api_Span) (out : List api_Span) : List api_Span := match out.getLast? with
  | some t => if c t = true then out.dropLast ++ [f t] else out ++ [n]
  | none => [n]
theorem onLast_nil {c : api_Span → Bool} {f : api_Span → api_Span} {n : api_Span} : onLast c f n [] = [n] := rfl
theorem onLast_snoc {c : api_Span → Bool} {f : api_Span → api_Span} {n t : api_Span} {i : List api_Span} : onLast c f n (i ++ [t]) = if c t = true then i ++ [f t] else (i ++ [t]) ++ [n] := by
  simp [onLast]
theorem onLast_length {c : api_Span → Bool} {f : api_Span → api_Span} {n : api_Span} {out : List api_Span} : (onLast c f n out).length ≤ out.length + 1 := by
  rcases List.eq_nil_or_concat out with rfl | ⟨i, t, rfl⟩
  · simp [onLast]
  · rw [List.concat_eq_append, onLast_snoc]; split <;> simp
theorem room_ok {n : Nat} (h : n ≤ 1000000) : (n + 1) * 16 ≤ room := by unfold room; omega
/-- How the program does it. -/
theorem last_step {c : api_Span → Bool} {f : api_Span → api_Span} {n : api_Span} {out : List api_Span} {β : Type} (hl : out.length ≤ 1000000) (k : List api_Span → Option β) {A B : Option β} (hA : A = k (out ++ [n])) (hB : B = k (out ++ [n])) :
    (bif (decide ((0 : Int) ≤ (IntKind.i64.wrap ((out.length : Int) - 1)))) then
      (idx out (IntKind.i64.wrap ((out.length : Int) - 1))).bind fun x => bif c x then k (List.set out ((IntKind.i64.wrap ((out.length : Int) - 1)).toNat) (f x)) else A
    else B) = k (onLast c f n out) := by
  rw [wrap64_id (by omega) (by omega)]
  rcases List.eq_nil_or_concat out with rfl | ⟨i, t, rfl⟩
  · simp [onLast_nil, hB]
  · rw [List.concat_eq_append] at *
    have e1 : (((i ++ [t]).length : Int) - 1) = (i.length : Int) := by simp
    rw [e1]
    have e2 : decide ((0 : Int) ≤ (i.length : Int)) = true := by simp
    rw [e2, cond_true, idx_nat, onLast_snoc]
    simp only [List.getElem?_concat_length, Option.bind_some, Int.toNat_natCast]
    cases hc : c t
    · simp [hA]
    · simp

/-! ### what spans that are merged in their order make -/
def merge (out : List api_Span) (s : api_Span) : List api_Span := onLast (fun t => decide (s.From ≤ t.To)) (fun t => ⟨t.From, if t.To < s.To then s.To else t.To⟩) s out
theorem merge_ok {out : List api_Span} {s : api_Span} (h : Canon out) (hs : Good s) (hb : ∀ t ∈ out, t.From ≤ s.From) :
    Canon (merge out s) ∧ (∀ t ∈ merge out s, t.From ≤ s.From) ∧ ∀ x, mem (merge out s) x ↔ mem out x ∨ (s.From ≤ x ∧ x < s.To) := by
  unfold merge
  rcases List.eq_nil_or_concat out with rfl | ⟨i, t, rfl⟩
  · rw [onLast_nil]
    refine ⟨(canon_snoc (l := [])).2 ⟨canon_nil, hs, fun _ h => by cases h⟩, fun t ht => ?_, fun x => ?_⟩
    · rw [List.mem_singleton] at ht; subst ht; exact Int.le_refl _
    · rw [mem_one]; exact ⟨.inr, fun h => h.elim (fun h => absurd h mem_nil) id⟩
  · rw [List.concat_eq_append] at *
    obtain ⟨h1, h2, h3⟩ := canon_snoc.1 h
    have hbt := hb t (List.mem_append_right _ (List.mem_singleton_self t))
    rw [onLast_snoc]
    by_cases hc : s.From ≤ t.To
    · rw [if_pos (by simpa using hc)]
      have hg := h2.lo
      have hg2 := h2.hi
      have hg3 := h2.lt
      have hs2 := hs.hi
      refine ⟨canon_snoc.2 ⟨h1, ⟨h2.lo, ?_, ?_⟩, h3⟩, fun u hu => ?_, fun x => ?_⟩
      · simp only; split <;> omega
      · simp only; split <;> assumption
      · rcases List.mem_append.1 hu with hu | hu
        · exact hb u (List.mem_append_left _ hu)
        · rw [List.mem_singleton] at hu; subst hu; exact hbt
      · rw [mem_append, mem_append, mem_one, mem_one]
        simp only
        constructor
        · rintro (h | ⟨q1, q2⟩)
          · exact .inl (.inl h)
          · by_cases hx : x < t.To
            · exact .inl (.inr ⟨q1, hx⟩)
            · refine .inr ⟨by omega, ?_⟩
              split at q2 <;> omega
        · rintro ((h | ⟨q1, q2⟩) | ⟨q1, q2⟩)
          · exact .inl h
          · refine .inr ⟨q1, ?_⟩
            split <;> omega
          · refine .inr ⟨by omega, ?_⟩
            split <;> omega
    · rw [if_neg (by simpa using hc)]
      refine ⟨canon_snoc.2 ⟨h, hs, fun u hu => ?_⟩, fun u hu => ?_, fun x => ?_⟩
      · rcases List.mem_append.1 hu with hu | hu
        · have := h3 u hu; have := h2.lt; omega
        · rw [List.mem_singleton] at hu; subst hu; omega
      · rcases List.mem_append.1 hu with hu | hu
        · exact hb u hu
        · rw [List.mem_singleton] at hu; subst hu; exact Int.le_refl _
      · rw [mem_append, mem_one]

theorem merges_ok : ∀ (l : List api_Span) (out : List api_Span), Canon out → (∀ s ∈ l, Good s) → l.Pairwise (fun a b => a.From ≤ b.From) → (∀ t ∈ out, ∀ s ∈ l, t.From ≤ s.From) →
    Canon (l.foldl merge out) ∧ ∀ x, mem (l.foldl merge out) x ↔ mem out x ∨ mem l x
  | [], out, h, _, _, _ => ⟨h, fun x => ⟨.inl, fun h => h.elim id (fun h => absurd h mem_nil)⟩⟩
  | s :: l, out, h, hg, hs, hb => by
    obtain ⟨q1, q2, q3⟩ := merge_ok h (hg s List.mem_cons_self) (fun t ht => hb t ht s List.mem_cons_self)
    have hs' := List.pairwise_cons.1 hs
    obtain ⟨r1, r2⟩ := merges_ok l (merge out s) q1 (fun t ht => hg t (List.mem_cons_of_mem _ ht)) hs'.2 (fun t ht u hu => by
      have := q2 t ht; have := hs'.1 u hu; omega)
    refine ⟨r1, fun x => ?_⟩
    rw [List.foldl_cons, r2, q3, mem_cons, or_assoc]

def goodB (s : api_Span) : Bool := rightS s && decide (s.From < s.To)
theorem goodB_iff {s : api_Span} : goodB s = true ↔ Good s := by
  simp only [goodB, Bool.and_eq_true, right_iff, decide_eq_true_eq]
  exact ⟨fun ⟨⟨h1, _, h2⟩, h3⟩ => ⟨h1, h3, h2⟩, fun h => ⟨⟨h.lo, Int.le_of_lt h.lt, h.hi⟩, h.lt⟩⟩
theorem sortSpan_perm (l : List api_Span) : (sortSpan l).Perm l := by
  have h := (srt_perm spanSWO (l.map fun s => (s.From, s.To))).map fun p : Int × Int => (⟨p.1, p.2⟩ : api_Span)
  have e : (l.map fun s => (s.From, s.To)).map (fun p : Int × Int => (⟨p.1, p.2⟩ : api_Span)) = l := by
    rw [List.map_map]; exact List.map_id' l
  rw [e] at h
  exact h
theorem sortSpan_sorted (l : List api_Span) : (sortSpan l).Pairwise fun a b => a.From ≤ b.From := by
  have h := srt_sorted spanSWO (l.map fun s => (s.From, s.To))
  refine List.pairwise_map.2 (h.imp fun {a b} hab => ?_)
  rw [spanLt_eq] at hab
  simpa using hab
/-- The set's list of whatever spans. -/
def ofS (l : List api_Span) : List api_Span := (sortSpan (l.filter goodB)).foldl merge []
def InS (l : List api_Span) (x : Int) : Bool := l.any fun s => rightS s && (decide (s.From ≤ x) && decide (x < s.To))
theorem InS_iff {l : List api_Span} {x : Int} : InS l x = true ↔ ∃ s ∈ l, rightS s = true ∧ s.From ≤ x ∧ x < s.To := by simp [InS, and_assoc]
theorem ofS_both (l : List api_Span) : Canon (ofS l) ∧ ∀ x, mem (ofS l) x ↔ InS l x = true := by
  have hp := sortSpan_perm (l.filter goodB)
  obtain ⟨h1, h2⟩ := merges_ok (sortSpan (l.filter goodB)) [] canon_nil (fun s hs => goodB_iff.1 (List.mem_filter.1 (hp.mem_iff.1 hs)).2) (sortSpan_sorted _) (fun t ht => by cases ht)
  refine ⟨h1, fun x => ?_⟩
  unfold ofS
  rw [h2, InS_iff]
  constructor
  · rintro (h | ⟨s, hs, h3⟩)
    · exact absurd h mem_nil
    · have := List.mem_filter.1 (hp.mem_iff.1 hs)
      exact ⟨s, this.1, (goodB_iff.1 this.2).right, h3⟩
  · rintro ⟨s, hs, hr, h3, h4⟩
    refine .inr ⟨s, hp.mem_iff.2 (List.mem_filter.2 ⟨hs, ?_⟩), h3, h4⟩
    have := right_iff.1 hr
    exact goodB_iff.2 ⟨this.1, by omega, this.2.2⟩
theorem ofS_canon (l : List api_Span) : Canon (ofS l) := (ofS_both l).1
theorem ofS_mem (l : List api_Span) (x : Int) : mem (ofS l) x ↔ InS l x = true := (ofS_both l).2 x
theorem canon_InS {l : List api_Span} (h : Canon l) (x : Int) : InS l x = true ↔ mem l x := by
  rw [InS_iff]
  exact ⟨fun ⟨s, hs, _, h2⟩ => ⟨s, hs, h2⟩, fun ⟨s, hs, h2⟩ => ⟨s, hs, (h.good s hs).right, h2⟩⟩
theorem ofS_self {l : List api_Span} (h : Canon l) : ofS l = l := canon_ext (ofS_canon l) h (fun x => (ofS_mem l x).trans (canon_InS h x))
theorem ofS_length (l : List api_Span) : (ofS l).length ≤ l.length := by
  have main : ∀ (m out : List api_Span), (m.foldl merge out).length ≤ out.length + m.length := by
    intro m
    induction m with
    | nil => intro out; simp
    | cons s m ih => intro out; have := ih (merge out s); have := onLast_length (c := fun t => decide (s.From ≤ t.To)) (f := fun t => ⟨t.From, if t.To < s.To then s.To else t.To⟩) (n := s) (out := out); simp only [List.foldl_cons, List.length_cons]; unfold merge at *; omega
  have h1 := main (sortSpan (l.filter goodB)) []
  have h2 := (sortSpan_perm (l.filter goodB)).length_eq
  have h3 := List.length_filter_le goodB l
  simp only [List.length_nil] at h1
  unfold ofS; omega

/-! ### by the ends of the spans -/
def insS : List Int → Int → List Int
  | [], n => [n]
  | a :: r, n => if n ≤ a then (if n < a then n :: a :: r else a :: r) else a :: insS r n
theorem insS_mem : ∀ {l : List Int} {n x : Int}, x ∈ insS l n ↔ x = n ∨ x ∈ l
  | [], n, x => by simp [insS]
  | a :: r, n, x => by
    unfold insS
    split
    · split
      · simp
      · have : n = a := by omega
        subst this; simp
    · simp only [List.mem_cons, insS_mem (l := r)]
      constructor
      · rintro (h | h | h)
        · exact .inr (.inl h)
        · exact .inl h
        · exact .inr (.inr h)
      · rintro (h | h | h)
        · exact .inr (.inl h)
        · exact .inl h
        · exact .inr (.inr h)
theorem insS_sorted : ∀ {l : List Int} {n : Int}, l.Pairwise (· < ·) → (insS l n).Pairwise (· < ·)
  | [], n, _ => List.pairwise_singleton _ _
  | a :: r, n, h => by
    have h' := List.pairwise_cons.1 h
    unfold insS
    split
    · split
      · rename_i h1 h2
        exact List.pairwise_cons.2 ⟨fun x hx => by
          rcases List.mem_cons.1 hx with rfl | hx
          · exact h2
          · have := h'.1 x hx; omega, h⟩
      · exact h
    · rename_i h1
      exact List.pairwise_cons.2 ⟨fun x hx => by
        rcases insS_mem.1 hx with rfl | hx
        · omega
        · exact h'.1 x hx, insS_sorted h'.2⟩
theorem insS_length : ∀ {l : List Int} {n : Int}, (insS l n).length ≤ l.length + 1
  | [], n => by simp [insS]
  | a :: r, n => by
    unfold insS
    split
    · split <;> simp
    · have := insS_length (l := r) (n := n); simp only [List.length_cons]; omega
def endS (out : List Int) (s : api_Span) : List Int := if rightS s = true then insS (insS out s.From) s.To else out
def endsS (l : List api_Span) : List Int := l.foldl endS []
theorem endsS_facts : ∀ (l : List api_Span) (out : List Int), out.Pairwise (· < ·) → (l.foldl endS out).Pairwise (· < ·) ∧ (l.foldl endS out).length ≤ out.length + 2 * l.length ∧
    ∀ x, x ∈ l.foldl endS out ↔ x ∈ out ∨ ∃ s ∈ l, rightS s = true ∧ (x = s.From ∨ x = s.To)
  | [], out, h => ⟨h, by simp, fun x => by simp⟩
  | s :: l, out, h => by
    have h1 : (endS out s).Pairwise (· < ·) := by unfold endS; split; exact insS_sorted (insS_sorted h); exact h
    have h2 : (endS out s).length ≤ out.length + 2 := by
      unfold endS; split
      · have := insS_length (l := insS out s.From) (n := s.To); have := insS_length (l := out) (n := s.From); omega
      · omega
    have h3 : ∀ x, x ∈ endS out s ↔ x ∈ out ∨ (rightS s = true ∧ (x = s.From ∨ x = s.To)) := by
      intro x
      unfold endS; split
      · rename_i hr
        rw [insS_mem, insS_mem]
        constructor
        · rintro (h | h | h)
          · exact .inr ⟨hr, .inr h⟩
          · exact .inr ⟨hr, .inl h⟩
          · exact .inl h
        · rintro (h | ⟨_, h | h⟩)
          · exact .inr (.inr h)
          · exact .inr (.inl h)
          · exact .inl h
      · rename_i hr
        exact ⟨.inl, fun h => h.elim id (fun h => absurd h.1 hr)⟩
    obtain ⟨r1, r2, r3⟩ := endsS_facts l (endS out s) h1
    refine ⟨r1, by simp only [List.foldl_cons, List.length_cons]; omega, fun x => ?_⟩
    rw [List.foldl_cons, r3, h3, or_assoc]
    refine or_congr Iff.rfl ?_
    constructor
    · rintro (h | ⟨t, ht, h⟩)
      · exact ⟨s, List.mem_cons_self, h⟩
      · exact ⟨t, List.mem_cons_of_mem _ ht, h⟩
    · rintro ⟨t, ht, h⟩
      rcases List.mem_cons.1 ht with rfl | ht
      · exact .inl h
      · exact .inr ⟨t, ht, h⟩

def cutStep (g : Bool → Bool → Bool) (a b : List api_Span) (u v : Int) (out : List api_Span) : List api_Span :=
  if g (InS a u) (InS b u) = true then onLast (fun t => decide (t.To = u)) (fun t => ⟨t.From, v⟩) ⟨u, v⟩ out else out
def cutS (g : Bool → Bool → Bool) (a b : List api_Span) : List Int → List api_Span → List api_Span
  | u :: v :: r, out => cutS g a b (v :: r) (cutStep g a b u v out)
  | _, out => out

theorem cutStep_ok {g : Bool → Bool → Bool} {a b : List api_Span} {u v : Int} {out : List api_Span} (h : Canon out) (hb : ∀ t ∈ out, t.To ≤ u) (huv : u < v) (hu : 0 ≤ u) (hv : v ≤ top)
    (hc : ∀ x, u ≤ x → x < v → InS a x = InS a u ∧ InS b x = InS b u) :
    Canon (cutStep g a b u v out) ∧ (∀ t ∈ cutStep g a b u v out, t.To ≤ v) ∧ ∀ x, mem (cutStep g a b u v out) x ↔ mem out x ∨ (u ≤ x ∧ x < v ∧ g (InS a x) (InS b x) = true) := by
  unfold cutStep
  by_cases hg : g (InS a u) (InS b u) = true
  · rw [if_pos hg]
    have hall : ∀ x, (u ≤ x ∧ x < v ∧ g (InS a x) (InS b x) = true) ↔ (u ≤ x ∧ x < v) := fun x =>
      ⟨fun h => ⟨h.1, h.2.1⟩, fun h => ⟨h.1, h.2, by rw [(hc x h.1 h.2).1, (hc x h.1 h.2).2]; exact hg⟩⟩
    rcases List.eq_nil_or_concat out with rfl | ⟨i, t, rfl⟩
    · rw [onLast_nil]
      refine ⟨(canon_snoc (l := [])).2 ⟨canon_nil, ⟨hu, huv, hv⟩, fun _ h => by cases h⟩, fun t ht => ?_, fun x => ?_⟩
      · rw [List.mem_singleton] at ht; subst ht; exact Int.le_refl _
      · rw [mem_one, hall]; exact ⟨.inr, fun h => h.elim (fun h => absurd h mem_nil) id⟩
    · rw [List.concat_eq_append] at *
      obtain ⟨h1, h2, h3⟩ := canon_snoc.1 h
      have hbt := hb t (List.mem_append_right _ (List.mem_singleton_self t))
      have hlt := h2.lt
      have hbi : ∀ s ∈ i, s.To ≤ v := fun s hs => by have := hb s (List.mem_append_left _ hs); omega
      rw [onLast_snoc]
      by_cases hcu : t.To = u
      · rw [if_pos (by simpa using hcu)]
        refine ⟨canon_snoc.2 ⟨h1, ⟨h2.lo, by simp only; omega, hv⟩, h3⟩, fun s hs => ?_, fun x => ?_⟩
        · rcases List.mem_append.1 hs with hs | hs
          · exact hbi s hs
          · rw [List.mem_singleton] at hs; subst hs; exact Int.le_refl _
        · rw [mem_append, mem_append, mem_one, mem_one, hall]
          simp only
          constructor
          · rintro (h | ⟨q1, q2⟩)
            · exact .inl (.inl h)
            · by_cases hx : x < t.To
              · exact .inl (.inr ⟨q1, hx⟩)
              · exact .inr ⟨by omega, q2⟩
          · rintro ((h | ⟨q1, q2⟩) | ⟨q1, q2⟩)
            · exact .inl h
            · exact .inr ⟨q1, by omega⟩
            · exact .inr ⟨by omega, q2⟩
      · rw [if_neg (by simpa using hcu)]
        refine ⟨canon_snoc.2 ⟨h, ⟨hu, huv, hv⟩, fun s hs => ?_⟩, fun s hs => ?_, fun x => ?_⟩
        · rcases List.mem_append.1 hs with hs | hs
          · have := h3 s hs; simp only; omega
          · rw [List.mem_singleton] at hs; subst hs; simp only; omega
        · rcases List.mem_append.1 hs with hs | hs
          · have := hb s hs; omega
          · rw [List.mem_singleton] at hs; subst hs; exact Int.le_refl _
        · rw [mem_append, mem_one, hall]
  · rw [if_neg hg]
    refine ⟨h, fun t ht => by have := hb t ht; omega, fun x => ⟨.inl, fun h => h.elim id (fun ⟨q1, q2, q3⟩ => ?_)⟩⟩
    rw [(hc x q1 q2).1, (hc x q1 q2).2] at q3
    exact absurd q3 hg

/-- Between two ends that stand side by side nothing begins or ends. -/
theorem InS_flat {l : List api_Span} {u v x : Int} (h : ∀ s ∈ l, rightS s = true → (s.From ≤ u ∨ v ≤ s.From) ∧ (s.To ≤ u ∨ v ≤ s.To)) (h1 : u ≤ x) (h2 : x < v) : InS l x = InS l u := by
  rw [Bool.eq_iff_iff, InS_iff, InS_iff]
  constructor
  · rintro ⟨s, hs, hr, q1, q2⟩
    have := h s hs hr
    exact ⟨s, hs, hr, by omega, by omega⟩
  · rintro ⟨s, hs, hr, q1, q2⟩
    have := h s hs hr
    exact ⟨s, hs, hr, by omega, by omega⟩

theorem cutS_ok {g : Bool → Bool → Bool} {a b : List api_Span} {E : List Int} (hE : ∀ s ∈ a ++ b, rightS s = true → s.From ∈ E ∧ s.To ∈ E) (hr : ∀ e ∈ E, 0 ≤ e ∧ e ≤ top) :
    ∀ (rest : List Int) (u : Int) (out : List api_Span), (u :: rest).Pairwise (· < ·) → (∀ e ∈ u :: rest, e ∈ E) → (∀ p ∈ E, p ≤ u ∨ p ∈ rest) → Canon out → (∀ t ∈ out, t.To ≤ u) →
      Canon (cutS g a b (u :: rest) out) ∧ ∀ x, mem (cutS g a b (u :: rest) out) x ↔ mem out x ∨ (u ≤ x ∧ (∃ e ∈ rest, x < e) ∧ g (InS a x) (InS b x) = true)
  | [], u, out, _, _, _, h, _ => ⟨h, fun x => ⟨.inl, fun h => h.elim id (fun ⟨_, ⟨e, he, _⟩, _⟩ => by cases he)⟩⟩
  | v :: r, u, out, hs, hin, hp, h, hb => by
    have hs1 := List.pairwise_cons.1 hs
    have hs2 := List.pairwise_cons.1 hs1.2
    have huv : u < v := hs1.1 v List.mem_cons_self
    have hu := hr u (hin u List.mem_cons_self)
    have hv := hr v (hin v (List.mem_cons_of_mem _ List.mem_cons_self))
    have part : ∀ p ∈ E, p ≤ u ∨ v ≤ p := by
      intro p hpE
      rcases hp p hpE with h | h
      · exact .inl h
      · rcases List.mem_cons.1 h with rfl | h
        · exact .inr (Int.le_refl _)
        · have := hs2.1 p h; exact .inr (by omega)
    have flat : ∀ x, u ≤ x → x < v → InS a x = InS a u ∧ InS b x = InS b u := fun x h1 h2 =>
      ⟨InS_flat (fun s hs' hr' => ⟨part _ (hE s (List.mem_append_left _ hs') hr').1, part _ (hE s (List.mem_append_left _ hs') hr').2⟩) h1 h2,
       InS_flat (fun s hs' hr' => ⟨part _ (hE s (List.mem_append_right _ hs') hr').1, part _ (hE s (List.mem_append_right _ hs') hr').2⟩) h1 h2⟩
    obtain ⟨q1, q2, q3⟩ := cutStep_ok (g := g) (a := a) (b := b) h hb huv hu.1 hv.2 flat
    obtain ⟨r1, r2⟩ := cutS_ok hE hr r v (cutStep g a b u v out) hs1.2 (fun e he => hin e (List.mem_cons_of_mem _ he)) (fun p hpE => by
      rcases hp p hpE with h | h
      · exact .inl (by omega)
      · rcases List.mem_cons.1 h with rfl | h
        · exact .inl (Int.le_refl _)
        · exact .inr h) q1 q2
    refine ⟨r1, fun x => ?_⟩
    show mem (cutS g a b (v :: r) (cutStep g a b u v out)) x ↔ _
    rw [r2, q3, or_assoc]
    refine or_congr Iff.rfl ?_
    constructor
    · rintro (⟨p1, p2, p3⟩ | ⟨p1, ⟨e, he, p2⟩, p3⟩)
      · exact ⟨p1, ⟨v, List.mem_cons_self, p2⟩, p3⟩
      · exact ⟨by omega, ⟨e, List.mem_cons_of_mem _ he, p2⟩, p3⟩
    · rintro ⟨p1, ⟨e, he, p2⟩, p3⟩
      by_cases hx : x < v
      · exact .inl ⟨p1, hx, p3⟩
      · rcases List.mem_cons.1 he with rfl | he
        · omega
        · exact .inr ⟨by omega, ⟨e, he, p2⟩, p3⟩

/-- What an operation by the ends makes. -/
def refS (g : Bool → Bool → Bool) (a b : List api_Span) : List api_Span := cutS g a b (endsS (a ++ b)) []
theorem refS_both {g : Bool → Bool → Bool} (hg : g false false = false) (a b : List api_Span) : Canon (refS g a b) ∧ ∀ x, mem (refS g a b) x ↔ g (InS a x) (InS b x) = true := by
  obtain ⟨f1, _, f3⟩ := endsS_facts (a ++ b) [] .nil
  have hE : ∀ s ∈ a ++ b, rightS s = true → s.From ∈ endsS (a ++ b) ∧ s.To ∈ endsS (a ++ b) := fun s hs hr => ⟨(f3 _).2 (.inr ⟨s, hs, hr, .inl rfl⟩), (f3 _).2 (.inr ⟨s, hs, hr, .inr rfl⟩)⟩
  have hr : ∀ e ∈ endsS (a ++ b), 0 ≤ e ∧ e ≤ top := by
    intro e he
    rcases (f3 e).1 he with h | ⟨s, _, hr, h⟩
    · cases h
    · have := right_iff.1 hr
      rcases h with rfl | rfl <;> omega
  unfold refS
  change (endsS (a ++ b)).Pairwise (· < ·) at f1
  generalize hEd : endsS (a ++ b) = E at *
  have out : ∀ x, g (InS a x) (InS b x) = true → ∃ s ∈ a ++ b, rightS s = true ∧ s.From ≤ x ∧ x < s.To := by
    intro x hx
    cases ha : InS a x with
    | true => obtain ⟨s, hs, h⟩ := InS_iff.1 ha; exact ⟨s, List.mem_append_left _ hs, h⟩
    | false =>
      cases hb : InS b x with
      | true => obtain ⟨s, hs, h⟩ := InS_iff.1 hb; exact ⟨s, List.mem_append_right _ hs, h⟩
      | false => rw [ha, hb, hg] at hx; cases hx
  cases E with
  | nil =>
    refine ⟨canon_nil, fun x => ⟨fun h => absurd h mem_nil, fun h => ?_⟩⟩
    obtain ⟨s, hs, hr', _⟩ := out x h
    have := (hE s hs hr').1; cases this
  | cons u rest =>
    obtain ⟨q1, q2⟩ := cutS_ok (g := g) hE hr rest u [] f1 (fun e he => he) (fun p hp => (List.mem_cons.1 hp).imp (fun h => by omega) id) canon_nil (fun t ht => by cases ht)
    refine ⟨q1, fun x => ?_⟩
    rw [q2]
    constructor
    · rintro (h | h)
      · exact absurd h mem_nil
      · exact h.2.2
    · intro h
      obtain ⟨s, hs, hr', p1, p2⟩ := out x h
      obtain ⟨e1, e2⟩ := hE s hs hr'
      have hu : u ≤ s.From := by
        rcases List.mem_cons.1 e1 with h | h
        · omega
        · have := (List.pairwise_cons.1 f1).1 _ h; omega
      refine .inr ⟨by omega, ⟨s.To, ?_, p2⟩, h⟩
      rcases List.mem_cons.1 e2 with h' | h'
      · omega
      · exact h'
theorem refS_canon {g : Bool → Bool → Bool} (hg : g false false = false) (a b : List api_Span) : Canon (refS g a b) := (refS_both hg a b).1
theorem refS_mem {g : Bool → Bool → Bool} (hg : g false false = false) (a b : List api_Span) (x : Int) : mem (refS g a b) x ↔ g (InS a x) (InS b x) = true := (refS_both hg a b).2 x
theorem refS_of (l : List api_Span) : refS (fun x y => x || y) l [] = ofS l :=
  canon_ext (refS_canon rfl l []) (ofS_canon l) (fun x => by rw [refS_mem rfl, ofS_mem]; simp [InS])
end Go.Proofs.YtcahamgecejmnaaDoor
