/-
  Equality, as the functional reading has it. Its conditions: none.
-/
import Derived.Test.YtcahamgecejmnaaDoorDenOps3
namespace Go.Den
open Go

variable {P : Program} {X : Ctx} {F : Nat → Prop} {B : Nat} {ι : Pos} {H : Heap} {w : World} {N : Nat → Prop}

theorem cellsEq_append : ∀ {k l : List SK} {a b : List AV} {r : Bool}, cellsEq (k ++ l) a b = some r →
    ∃ x y, cellsEq k a b = some x ∧ cellsEq l (a.drop k.length) (b.drop k.length) = some y ∧ r = (x && y)
  | [], l, a, b, r, h => ⟨true, r, rfl, by simpa using h, by simp⟩
  | q :: k, l, a, b, r, h => by
    cases a with
    | nil => cases h
    | cons c a => cases b with
      | nil => cases h
      | cons d b =>
        simp only [List.cons_append, cellsEq] at h
        split at h
        · rename_i x y h1 h2
          obtain rfl := Option.some.inj h
          obtain ⟨x', y', e1, e2, rfl⟩ := cellsEq_append h2
          exact ⟨x && x', y', by simp only [cellsEq, h1, e1], by simpa using e2, by rw [Bool.and_assoc]⟩
        · cases h

/-- Two values of a scalar kind. -/
theorem run_scal {d : Nat} {t : TypeId} {k : SK} (hk : match k with | .bool => P.underlying t = some .bool | .int => ∃ i, P.underlying t = some (.int i) | .str => P.underlying t = some .string)
    {x y : AV} {v u : Value} (hx : Rel N ι H w x v) (hy : Rel N ι H w y u) {r : Bool} (h : scalEq k x y = some r) (w' : World) : (Op.equalIn (d + 1) t v u).run P w' = .ok r w' := by
  unfold scalEq at h
  split at h
  · split at h
    · rename_i e
      subst e
      obtain rfl := Option.some.inj h
      obtain rfl := rel_int hx
      obtain rfl := rel_int hy
      obtain ⟨i, hi⟩ := hk
      rw [run_equalIn_int w' d t _ i _ _ hi]; rfl
    · cases h
  · obtain rfl := Option.some.inj h
    obtain rfl := rel_str hx
    obtain rfl := rel_str hy
    rw [run_equalIn_string w' d t _ _ hk, toList_mk, toList_mk]
  · obtain rfl := Option.some.inj h
    obtain rfl := rel_bool hx
    obtain rfl := rel_bool hy
    rw [run_equalIn_bool' w' d t _ _ hk]
  · cases h

theorem fieldsOf_eq {t : TypeId} {fs : Array Field} (h : P.underlying t = some (.struct fs)) : P.fieldsOf t = fs := by unfold Program.fieldsOf; rw [h]

theorem cellsEq_take : ∀ {l : List SK} {a b : List AV} {n m : Nat}, l.length ≤ n → l.length ≤ m → cellsEq l (a.take n) (b.take m) = cellsEq l a b
  | [], a, b, n, m, _, _ => by simp [cellsEq]
  | q :: l, a, b, n, m, h1, h2 => by
    cases n with
    | zero => simp at h1
    | succ n => cases m with
      | zero => simp at h2
      | succ m =>
        cases a with
        | nil => simp [cellsEq]
        | cons c a => cases b with
          | nil => simp [cellsEq]
          | cons e b =>
            simp only [List.take_succ_cons, cellsEq]
            rw [cellsEq_take (l := l) (by simpa using h1) (by simpa using h2)]

theorem All2.drop {α β : Type} {R : α → β → Prop} : ∀ {xs : List α} {ys : List β} (n : Nat), All2 R xs ys → All2 R (xs.drop n) (ys.drop n)
  | _, _, 0, h => h
  | _, _, _ + 1, .nil => .nil
  | _, _, n + 1, .cons _ t => t.drop n
theorem All2.take {α β : Type} {R : α → β → Prop} : ∀ {xs : List α} {ys : List β} (n : Nat), All2 R xs ys → All2 R (xs.take n) (ys.take n)
  | _, _, 0, _ => .nil
  | _, _, _ + 1, .nil => .nil
  | _, _, n + 1, .cons h t => .cons h (t.take n)

/-- What a kind's comparison of two parts says. -/
def EqSays (P : Program) (N : Nat → Prop) (ι : Pos) (H : Heap) (w : World) (d : Nat) (t : TypeId) (l : List SK) (s : Nat) : Prop :=
  ∀ (cs ds : List AV) (xs ys : List Value) (off : Nat) (r : Bool), All2 (Rel N ι H w) cs xs → All2 (Rel N ι H w) ds ys →
    cellsEq l (cs.drop off) (ds.drop off) = some r → off + s ≤ cs.length → off + s ≤ ds.length → ∀ w',
    ∃ a b, (part t xs.toArray off).run P w' = .ok a w' ∧ (part t ys.toArray off).run P w' = .ok b w' ∧ (Op.equalIn d t a b).run P w' = .ok r w'

theorem run_eqFs {g : TypeId → Option (List SK)} {d : Nat} (hg : ∀ t l s b, g t = some l → sizeT P t = some s → aggT P t = some b → l.length = s → EqSays P N ι H w d t l s) :
    ∀ (fs : List Field) (o : Nat) (l : List SK) (cs ds : List AV) (xs ys : List Value) (r : Bool), eqFs P g fs o = some l → All2 (Rel N ι H w) cs xs → All2 (Rel N ι H w) ds ys →
      cellsEq l (cs.drop o) (ds.drop o) = some r → o + l.length ≤ cs.length → o + l.length ≤ ds.length → ∀ w', (Op.eqFields d xs.toArray ys.toArray fs).run P w' = .ok r w'
  | [], o, l, cs, ds, xs, ys, r, h, _, _, hr, _, _, w' => by
    obtain rfl := Option.some.inj h
    simp only [cellsEq, Option.some.injEq] at hr
    subst hr; rfl
  | f :: fs, o, l, cs, ds, xs, ys, r, h, hx, hy, hr, l1, l2, w' => by
    simp only [eqFs] at h
    split at h
    · cases h
    · rename_i hn
      split at h
      · rename_i k s b e1 e2 e3
        split at h
        · rename_i hlen
          split at h
          · rename_i l' e4
            obtain rfl := Option.some.inj h
            obtain ⟨x, y, c1, c2, rfl⟩ := cellsEq_append hr
            have hn1 : f.name ≠ "_" := fun e => hn (.inl e)
            have hn2 : f.offset = o := Decidable.byContradiction fun e => hn (.inr e)
            have l1' : o + s ≤ cs.length := by simp only [List.length_append] at l1; omega
            have l2' : o + s ≤ ds.length := by simp only [List.length_append] at l2; omega
            obtain ⟨a, b', p1, p2, p3⟩ := hg f.type k s b e1 e2 e3 hlen cs ds xs ys o x hx hy c1 l1' l2' w'
            simp only [Op.eqFields, Sem.run_ite, if_pos hn1, Sem.run_bind, hn2, p1, p2, p3, Result.andThen_ok]
            cases x with
            | false => simp
            | true =>
              simp only [Bool.not_true, Bool.false_eq_true, if_false, Bool.true_and]
              refine run_eqFs hg fs (o + s) l' cs ds xs ys y e4 hx hy ?_ ?_ ?_ w'
              · rw [← hlen, ← List.drop_drop, ← List.drop_drop]; exact c2
              · simp only [List.length_append] at l1; omega
              · simp only [List.length_append] at l2; omega
          · cases h
        · cases h
      · cases h

theorem part_cell {t : TypeId} (hg : aggT P t = some false) {xs : List Value} {off : Nat} (h : off < xs.length) (w' : World) : (part t xs.toArray off).run P w' = .ok xs[off] w' := by
  simp [part, Sem.run_bind, run_isAgg hg, h]
theorem part_agg {t : TypeId} {s : Nat} (hg : aggT P t = some true) (hs : sizeT P t = some s) {xs : List Value} {off : Nat} (w' : World) :
    (part t xs.toArray off).run P w' = .ok (.agg ((xs.drop off).take s).toArray) w' := by
  simp only [part, Sem.run_bind, run_isAgg hg, Result.andThen_ok, if_true, run_sizeOf hs, Sem.run_pure, List.extract_toArray, List.extract_eq_take_drop]
  rw [Nat.add_sub_cancel_left]

theorem scalar_says {d : Nat} {t : TypeId} {k : SK} (hk : match k with | .bool => P.underlying t = some .bool | .int => ∃ i, P.underlying t = some (.int i) | .str => P.underlying t = some .string)
    (hg : aggT P t = some false) : EqSays P N ι H w (d + 1) t [k] 1 := by
  intro cs ds xs ys off r hx hy hr l1 l2 w'
  have h1 : off < cs.length := by omega
  have h2 : off < ds.length := by omega
  have h1' : off < xs.length := by rw [← hx.length]; exact h1
  have h2' : off < ys.length := by rw [← hy.length]; exact h2
  refine ⟨xs[off], ys[off], part_cell hg h1' w', part_cell hg h2' w', ?_⟩
  rw [List.drop_eq_getElem_cons h1, List.drop_eq_getElem_cons h2] at hr
  simp only [cellsEq] at hr
  split at hr
  · rename_i x y e1 e2
    obtain rfl := Option.some.inj e2
    obtain rfl := Option.some.inj hr
    rw [Bool.and_true]
    exact run_scal hk (hx.get off _ _ (List.getElem?_eq_getElem h1) (List.getElem?_eq_getElem h1')) (hy.get off _ _ (List.getElem?_eq_getElem h2) (List.getElem?_eq_getElem h2')) e1 w'
  · cases hr

theorem run_eqT : ∀ (n d : Nat) (t : TypeId) (l : List SK) (s : Nat) (g : Bool), n ≤ d → eqT P n t = some l → sizeT P t = some s → aggT P t = some g → l.length = s → EqSays P N ι H w d t l s
  | 0, _, _, _, _, _, _, h, _, _, _ => by cases h
  | n + 1, 0, _, _, _, _, hd, _, _, _, _ => by omega
  | n + 1, d + 1, t, l, s, g, hd, h, hs, hg, hl => by
    simp only [eqT] at h
    split at h
    · rename_i hu
      obtain rfl := Option.some.inj h
      obtain rfl : 1 = s := hl
      have hg' : aggT P t = some false := by unfold aggT; rw [hu]
      exact scalar_says (k := .bool) hu hg'
    · rename_i i hu
      obtain rfl := Option.some.inj h
      obtain rfl : 1 = s := hl
      have hg' : aggT P t = some false := by unfold aggT; rw [hu]
      exact scalar_says (k := .int) ⟨i, hu⟩ hg'
    · rename_i hu
      obtain rfl := Option.some.inj h
      obtain rfl : 1 = s := hl
      have hg' : aggT P t = some false := by unfold aggT; rw [hu]
      exact scalar_says (k := .str) hu hg'
    · rename_i fs hu
      split at h
      · cases h
      · rename_i hst
        have hg' : aggT P t = some true := by unfold aggT; rw [hu]
        intro cs ds xs ys off r hx hy hr l1 l2 w'
        refine ⟨_, _, part_agg hg' hs w', part_agg hg' hs w', ?_⟩
        have hf : P.underlying t = some (.struct (P.fieldsOf t)) := by rw [fieldsOf_eq hu]; exact hu
        rw [run_equalIn_struct w' d t _ _ hf (by simpa using hst), fieldsOf_eq hu]
        refine run_eqFs (g := eqT P n) (d := d) (fun t' l' s' b' e1 e2 e3 e4 => run_eqT n d t' l' s' b' (by omega) e1 e2 e3 e4) fs.toList 0 l ((cs.drop off).take s) ((ds.drop off).take s) _ _ r h ((hx.drop off).take s) ((hy.drop off).take s) ?_ ?_ ?_ w'
        · simp only [List.drop_zero]
          rw [cellsEq_take (by omega) (by omega)]; exact hr
        · simp; omega
        · simp; omega
    · cases h

theorem eqA_cells {t : TypeId} {l : List SK} {n : Nat} (hn : n ≤ 9999) (hl : eqT P (n + 1) t = some l) (hu : ∃ fs, P.underlying t = some (.struct fs)) {x y : AV} {v u : Value} (hx : Rel N ι H w x v) (hy : Rel N ι H w y u) {r : Bool}
    (h : eqA (.cells l) x y = some r) : ∃ xs ys : List Value, v = .agg xs.toArray ∧ u = .agg ys.toArray ∧ ∀ w', (Op.equalIn 10000 t v u).run P w' = .ok r w' := by
  cases x with
  | agg cs => cases y with
    | agg ds =>
      obtain ⟨xs, rfl, hl1, _, hr1⟩ := rel_agg hx
      obtain ⟨ys, rfl, hl2, _, hr2⟩ := rel_agg hy
      refine ⟨xs, ys, rfl, rfl, fun w' => ?_⟩
      obtain ⟨fs, hu⟩ := hu
      simp only [eqT, hu] at hl
      split at hl
      · cases hl
      · rename_i hst
        have hf : P.underlying t = some (.struct (P.fieldsOf t)) := by rw [fieldsOf_eq hu]; exact hu
        simp only [eqA] at h
        rw [run_equalIn_struct w' 9999 t _ _ hf (by simpa using hst), fieldsOf_eq hu]
        have lens : ∀ (l : List SK) (a b : List AV) (r : Bool), cellsEq l a b = some r → l.length ≤ a.length ∧ l.length ≤ b.length := by
          intro l
          induction l with
          | nil => intro a b r _; simp
          | cons q l ih =>
            intro a b r h
            cases a with
            | nil => cases h
            | cons c a => cases b with
              | nil => cases h
              | cons e b =>
                simp only [cellsEq] at h
                split at h
                · rename_i x y _ e2
                  have := ih a b y e2
                  simp; omega
                · cases h
        obtain ⟨la, lb⟩ := lens l cs ds r h
        refine run_eqFs (g := eqT P n) (d := 9999) (fun t' l' s' b' e1 e2 e3 e4 => run_eqT n 9999 t' l' s' b' hn e1 e2 e3 e4) fs.toList 0 l cs ds _ _ r hl (All2.of hl1 hr1) (All2.of hl2 hr2) (by simpa using h) (by omega) (by omega) w'
    | _ => cases h
  | _ => cases h

end Go.Den
