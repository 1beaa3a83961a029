/-
  A row's arguments, as the functional reading has them, and that they read behind the call as they read before. Its conditions: typeCT.
-/
import Derived.Test.YtcahamgecejmnaaDoorDenData
import Derived.OpenShut
import Derived.Carry
import Derived.ChangeOld
import Derived.Below
namespace Go.Den
open Go
open Go.RowKit (Below)
open Go.ChangeShapes Go.WideShapes

variable {P : Program} {W : World} {H : Type} {enc : TypeId × Value → H}

/-- An argument of a kind. -/
def TyA (q : Bool × List CT) (x : AV) : Prop := ∃ cs, x = mkE q.1 cs ∧ TyL q.2 cs

theorem arg_read {d : Nat} {t : TypeId} {g : Bool} {l : List CT} (ht : typeCT P d t = some (g, l)) {b : Nat} {v : Value} (hval : Value.okWide P W .any b t v) {x : DataW H} {ps : List MemPlace}
    (h : DataW.Trod enc P W 0 (fun _ => true) true t v x ps) : ∃ a, VD (fun _ => False) W a v ∧ TyA (g, l) a := by
  obtain ⟨fuel, h⟩ := h
  obtain ⟨xs, hr⟩ := data d t g l fuel _ _ ht h
  cases d with
  | zero => cases ht
  | succ d =>
    have single : ∀ {u : Value}, v = u → u.cells = #[u] → g = false → ∃ a, VD (fun _ => False) W a v ∧ TyA (g, l) a := by
      rintro u rfl hu rfl
      have hv := hr.vd
      rw [hu] at hv
      have hl := hv.length
      match xs, hl, hv with
      | [a], _, hv =>
        exact ⟨a, hv.get 0 a _ rfl rfl, [a], by simp [mkE], hr.ty⟩
    simp only [typeCT] at ht
    split at ht
    · rename_i hu
      obtain ⟨rfl, rfl⟩ := Prod.mk.inj (Option.some.inj ht)
      obtain ⟨n, rfl⟩ := okWide_bool hu hval
      exact single rfl rfl rfl
    · rename_i k hu
      obtain ⟨rfl, rfl⟩ := Prod.mk.inj (Option.some.inj ht)
      obtain ⟨n, rfl⟩ := okWide_int hu hval
      exact single rfl rfl rfl
    · rename_i hu
      obtain ⟨rfl, rfl⟩ := Prod.mk.inj (Option.some.inj ht)
      obtain ⟨n, rfl⟩ := okWide_string hu hval
      exact single rfl rfl rfl
    · rename_i e hu
      split at ht
      · split at ht
        · obtain ⟨rfl, rfl⟩ := Prod.mk.inj (Option.some.inj ht)
          obtain ⟨a, n, c, rfl⟩ := okWide_slice hu hval
          exact single rfl rfl rfl
        · cases ht
      · cases ht
    · rename_i fs hu
      split at ht
      · split at ht
        · obtain ⟨rfl, rfl⟩ := Prod.mk.inj (Option.some.inj ht)
          simp only [Value.okWide, hu] at hval
          obtain ⟨cs, rfl, _⟩ := hval
          have hv : All2 (VD (fun _ => False) W) xs cs.toList := hr.vd
          refine ⟨.agg xs, ?_, xs, rfl, hr.ty⟩
          have := VD.agg (N := fun _ => False) (w := W) xs cs.toList hv.length (fun v hm => hr.one v hm) (fun i c v h1 h2 => hv.get i c v h1 h2)
          simpa using this
        · cases ht
      · cases ht
    · cases ht

theorem args_read {d : Nat} : ∀ {ts : List TypeId} {qs : List (Bool × List CT)}, ts.map (typeCT P d) = qs.map some → ∀ {vs : List Value} {ds : List (DataW H)} {ps : List MemPlace} {b : Nat},
    DataW.TrodAll enc P W 0 (fun _ => true) true ts vs ds ps → (∀ (j : Nat) t v, ts[j]? = some t → vs[j]? = some v → Value.okWide P W .any b t v) →
    ∃ xs, All2 (VD (fun _ => False) W) xs vs ∧ All2 TyA qs xs
  | [], qs, hq, vs, ds, ps, b, h, _ => by
    obtain ⟨rfl, rfl, rfl⟩ := trodAll_nil h
    cases qs with
    | nil => exact ⟨[], .nil, .nil⟩
    | cons _ _ => cases hq
  | t :: ts, qs, hq, vs, ds, ps, b, h, hval => by
    cases qs with
    | nil => cases hq
    | cons q qs =>
      obtain ⟨h1, h2⟩ := List.cons.inj hq
      obtain ⟨v, vs', dd, ds', p, p', rfl, rfl, rfl, hd, hr⟩ := trodAll_cons h
      obtain ⟨a, ha, hta⟩ := arg_read (g := q.1) (l := q.2) h1 (hval 0 t v rfl rfl) hd
      obtain ⟨xs, hxs, htx⟩ := args_read h2 hr (fun j t v g1 g2 => hval (j + 1) t v (by simpa using g1) (by simpa using g2))
      exact ⟨a :: xs, .cons ha hxs, .cons hta htx⟩

theorem trodAll_lt : ∀ {ts : List TypeId} {vs : List Value} {ds : List (DataW H)} {ps : List MemPlace}, DataW.TrodAll enc P W 0 (fun _ => true) true ts vs ds ps → ∀ x ∈ ps, x.block < W.heap.size
  | [], vs, ds, ps, h => by
    obtain ⟨rfl, rfl, rfl⟩ := trodAll_nil h
    intro x hx; cases hx
  | t :: ts, vs, ds, ps, h => by
    obtain ⟨v, vs', dd, ds', p, p', rfl, rfl, rfl, ⟨fuel, hd⟩, hr⟩ := trodAll_cons h
    intro x hx
    rcases List.mem_append.1 hx with h1 | h1
    · exact DataW.trod_lt fuel _ _ _ hd x h1
    · exact trodAll_lt hr x h1

/-- Behind the call each argument reads as it read before. -/
theorem args_back {W' : World} (hl : laidOutB P = true) (hb : Below W.heap.size W W') : ∀ {ts : List TypeId} {vs : List Value} {ds : List (DataW H)} {ps : List MemPlace}, ts.all (fun t => P.readableRec t && decide (t < P.types.size)) = true →
    DataW.TrodAll enc P W 0 (fun _ => true) true ts vs ds ps → DataW.TrodAll enc P W' 0 (fun b => decide (b < W.heap.size)) true ts vs ds ps
  | [], vs, ds, ps, _, h => by
    obtain ⟨rfl, rfl, rfl⟩ := trodAll_nil h
    exact trodAll_mk0
  | t :: ts, vs, ds, ps, ha, h => by
    have hlt := trodAll_lt h
    obtain ⟨v, vs', dd, ds', p, p', rfl, rfl, rfl, hd, hr⟩ := trodAll_cons h
    simp only [List.all_cons, Bool.and_eq_true, decide_eq_true_eq] at ha
    exact trodAll_cons_mk (Below.trod hl ha.1.1 ha.1.2 hd hb (fun x hx => hlt x (List.mem_append_left _ hx))) (args_back hl hb ha.2 hr)

end Go.Den
