/-
  Operations that leave memory alone: the machine's do what the functional reading says. Its conditions: none.
-/
import Derived.Test.YtcahamgecejmnaaDoorDenRel
import Derived.Test.YtcahamgecejmnaaDoorDenTr
import Derived.Laws.Sem
import Derived.Laws.World
import Derived.Laws.Entries
import Derived.Laws.StructEq
namespace Go.Den
open Go

variable {P : Program} {X : Ctx} {F : Nat → Prop} {B : Nat} {ι : Pos} {H : Heap} {w : World} {N : Nat → Prop}

/-! ### constants and operands -/
theorem const1_vd {v : Value} {x : AV} (h : const1 v = some x) : VD N w x v ∧ one v := by
  unfold const1 at h
  split at h <;> first | (cases h; done) | (obtain rfl := Option.some.inj h)
  · exact ⟨.bool _, rfl⟩
  · exact ⟨.int _ _, rfl⟩
  · rename_i s
    obtain ⟨⟨l⟩⟩ := s
    exact ⟨.str l, rfl⟩
  · exact ⟨.nilp, rfl⟩
  · exact ⟨.zs true none (fun _ => rfl), rfl⟩
  · exact ⟨.nilmap, rfl⟩
  · exact ⟨.nilfn, rfl⟩
  · exact ⟨.nilif, rfl⟩

theorem constL_vd : ∀ {vs : List Value} {xs : List AV}, constL vs = some xs → xs.length = vs.length ∧ (∀ v ∈ vs, one v) ∧ ∀ (i : Nat) (c : AV) (v : Value), xs[i]? = some c → vs[i]? = some v → VD N w c v
  | [], xs, h => by
    obtain rfl := Option.some.inj (show some [] = some xs from h)
    exact ⟨rfl, by simp, by simp⟩
  | v :: r, xs, h => by
    simp only [constL] at h
    split at h
    · rename_i x ys h1 h2
      obtain rfl := Option.some.inj h
      obtain ⟨a, b, c⟩ := constL_vd h2
      obtain ⟨d, e⟩ := const1_vd (N := N) (w := w) h1
      refine ⟨by simp [a], ?_, ?_⟩
      · intro u hu
        rcases List.mem_cons.1 hu with rfl | hu
        · exact e
        · exact b u hu
      · intro i c' u h3 h4
        cases i with
        | zero => simp at h3 h4; obtain rfl := h3; obtain rfl := h4; exact d
        | succ i => simp at h3 h4; exact c i c' u h3 h4
    · cases h

theorem constA_vd {v : Value} {x : AV} (h : constA v = some x) : VD N w x v := by
  unfold constA at h
  split at h
  · rename_i cs
    split at h
    · rename_i l hl
      obtain rfl := Option.some.inj h
      obtain ⟨a, b, c⟩ := constL_vd (N := N) (w := w) hl
      have := VD.agg (N := N) (w := w) l cs.toList a b c
      simpa using this
    · cases h
  · exact (const1_vd h).1

/-- A frame of the reading and one of the machine. -/
structure FR (F : Nat → Prop) (ι : Pos) (H : Heap) (w : World) (e : Env) (a : Act) (nt : Nat) : Prop where
  size : nt ≤ a.tmps.size
  defers : a.defers = []
  env : ∀ t, Rel (bad F ι H) ι H w (e t) (a.tmps.getD t undef)

theorem FR.adv {e : Env} {a : Act} {nt : Nat} (h : FR F ι H w e a nt) {ι' : Pos} {H' : Heap} {w' : World} (g : Adv ι H w ι' H' w') : FR F ι' H' w' e a nt :=
  ⟨h.size, h.defers, fun t => (h.env t).adv g⟩

theorem FR.put {e : Env} {a : Act} {nt : Nat} (h : FR F ι H w e a nt) {dst : Option Nat} (hd : ∀ d, dst = some d → d < nt) {r : AV} {v : Value} (hr : Rel (bad F ι H) ι H w r v) :
    FR F ι H w (e.put dst r) (a.put dst v) nt := by
  cases dst with
  | none => exact h
  | some d =>
    have hlt : d < a.tmps.size := Nat.lt_of_lt_of_le (hd d rfl) h.size
    refine ⟨by simpa [Act.put] using h.size, by simpa [Act.put] using h.defers, fun t => ?_⟩
    simp only [Env.put, Env.set, Act.put]
    by_cases ht : t = d
    · subst ht; rw [if_pos rfl]; simpa [Array.getD, hlt] using hr
    · rw [if_neg ht]
      have := h.env t
      have e1 : (a.tmps.setIfInBounds d v).getD t undef = a.tmps.getD t undef := by
        simp only [Array.getD_eq_getD_getElem?, Array.getElem?_setIfInBounds]
        rw [if_neg (by omega)]
      rw [e1]; exact this

theorem undef_vd : VD N w .undef Go.undef := by
  have := VD.tup (N := N) (w := w) [] [] rfl (fun i c v h => by cases h)
  exact this

theorem opd_rel {e : Env} {a : Act} {nt : Nat} (hS : SR X F B ι H w) (hF : FR F ι H w e a nt) {o : Operand} {x : Opd} (h : trOpd o = some x) : Rel (bad F ι H) ι H w (x.ev X e) (a.eval o) := by
  unfold trOpd at h
  split at h
  · obtain rfl := Option.some.inj h
    exact hF.env _
  · split at h
    · rename_i hc
      obtain rfl := Option.some.inj h
      exact .still _ _ (constA_vd hc)
    · cases h
  · rename_i g
    obtain rfl := Option.some.inj h
    simp only [Opd.ev]
    cases hg : X.glob g with
    | none => exact .junk _
    | some v => exact .still _ _ (hS.glob g v hg)
  · rename_i f
    obtain rfl := Option.some.inj h
    exact .still _ _ (VD.fn f [] [] rfl (fun i c v h => by cases h))

/-! ### reading a relation off a value's form -/
theorem rel_bool {b : Bool} {v : Value} (h : Rel N ι H w (.bool b) v) : v = .bool b := by
  cases h with
  | still _ _ h => cases h; rfl
theorem rel_int {k : IntKind} {n : Int} {v : Value} (h : Rel N ι H w (.int k n) v) : v = .int k n := by
  cases h with
  | still _ _ h => cases h; rfl
theorem rel_str {s : List UInt8} {v : Value} (h : Rel N ι H w (.str s) v) : v = .string ⟨s.toArray⟩ := by
  cases h with
  | still _ _ h => cases h; rfl
theorem rel_agg {cs : List AV} {v : Value} (h : Rel N ι H w (.agg cs) v) : ∃ vs : List Value, v = .agg vs.toArray ∧ cs.length = vs.length ∧ (∀ v ∈ vs, one v) ∧
    ∀ (i : Nat) (c : AV) (v : Value), cs[i]? = some c → vs[i]? = some v → Rel N ι H w c v := by
  cases h with
  | still _ _ h => cases h with
    | agg _ vs hl h1 h => exact ⟨vs, rfl, hl, h1, fun i c v a b => .still _ _ (h i c v a b)⟩
  | agg _ vs hl h1 h => exact ⟨vs, rfl, hl, h1, h⟩
theorem rel_tup {cs : List AV} {v : Value} (h : Rel N ι H w (.tup cs) v) : ∃ vs : List Value, v = .tuple vs.toArray ∧ cs.length = vs.length ∧
    ∀ (i : Nat) (c : AV) (v : Value), cs[i]? = some c → vs[i]? = some v → Rel N ι H w c v := by
  cases h with
  | still _ _ h => cases h with
    | tup _ vs hl h => exact ⟨vs, rfl, hl, fun i c v a b => .still _ _ (h i c v a b)⟩
  | tup _ vs hl h => exact ⟨vs, rfl, hl, h⟩
theorem rel_fn {f : Nat} {cs : List AV} {v : Value} (h : Rel N ι H w (.fn f cs) v) : ∃ vs : List Value, v = .func (.func f) #[] vs.toArray ∧ cs.length = vs.length ∧
    ∀ (i : Nat) (c : AV) (v : Value), cs[i]? = some c → vs[i]? = some v → Rel N ι H w c v := by
  cases h with
  | still _ _ h => cases h with
    | fn _ _ vs hl h => exact ⟨vs, rfl, hl, fun i c v a b => .still _ _ (h i c v a b)⟩
  | fn _ _ vs hl h => exact ⟨vs, rfl, hl, h⟩

/-- The cells of a value. -/
theorem rel_cells {x : AV} {v : Value} (h : Rel N ι H w x v) (hx : x.solid = true) :
    x.cells.length = v.cells.size ∧ (∀ u ∈ v.cells.toList, one u) ∧ ∀ (i : Nat) (c : AV) (u : Value), x.cells[i]? = some c → v.cells[i]? = some u → Rel N ι H w c u := by
  have solo : ∀ (x : AV) (v : Value), x.cells = [x] → v.cells = #[v] → one v → Rel N ι H w x v →
      x.cells.length = v.cells.size ∧ (∀ u ∈ v.cells.toList, one u) ∧ ∀ (i : Nat) (c : AV) (u : Value), x.cells[i]? = some c → v.cells[i]? = some u → Rel N ι H w c u := by
    intro x v h1 h2 h3 h4
    rw [h1, h2]
    refine ⟨rfl, fun u hu => by simp at hu; subst hu; exact h3, fun i c u a b => ?_⟩
    cases i with
    | zero => simp at a b; subst a; subst b; exact h4
    | succ i => simp at a
  have h' := h
  cases h with
  | still _ _ g =>
    cases g with
    | agg cs vs hl h1 h => exact ⟨by simpa [AV.cells, Value.cells] using hl, by simpa [Value.cells] using h1, fun i c u a b => .still _ _ (h i c u (by simpa [AV.cells] using a) (by simpa [Value.cells] using b))⟩
    | tup => cases hx
    | junk => cases hx
    | _ => exact solo _ _ rfl rfl rfl h'
  | agg cs vs hl h1 h => exact ⟨by simpa [AV.cells, Value.cells] using hl, by simpa [Value.cells] using h1, fun i c u a b => h i c u (by simpa [AV.cells] using a) (by simpa [Value.cells] using b)⟩
  | tup => cases hx
  | junk => cases hx
  | _ => exact solo _ _ rfl rfl rfl h'

end Go.Den
