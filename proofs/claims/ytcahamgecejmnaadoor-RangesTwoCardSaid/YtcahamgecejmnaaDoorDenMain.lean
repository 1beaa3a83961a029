/-
  The machine's operations, code and calls do what the functional reading says. Its conditions: CtxOK.
-/
import Derived.Test.YtcahamgecejmnaaDoorDenSound
namespace Go.Den
open Go
open Go.RowKit (Below)

variable {P : Program} {X : Ctx} {F : Nat → Prop} {B : Nat} {ι : Pos} {H : Heap} {w : World} {N : Nat → Prop}

/-- An operation does what is read: where it goes on, it goes on so. -/
def Does (P : Program) (X : Ctx) (F : Nat → Prop) (B : Nat) (ι : Pos) (H : Heap) (w : World) (o : Oper) (a : Act) (r : AV) (H' : Heap) : Prop :=
  ∀ (K : Act → World → Prop) (Q : Exit → Act → World → Prop), (∀ v w' ι', SR X F B ι' H' w' → Adv ι H w ι' H' w' → Rel (bad F ι' H') ι' H' w' r v → K (a.put o.dst v) w') → o.wp P a w K Q

theorem does_value {o : Oper} {a : Act} {r : AV} {H' : Heap} {v : Value} {w' : World} {ι' : Pos} (hrun : (execOp a.eval o).run P w = .ok (.value v) w') (hS : SR X F B ι' H' w') (hA : Adv ι H w ι' H' w')
    (hr : Rel (bad F ι' H') ι' H' w' r v) : Does P X F B ι H w o a r H' := by
  intro K Q hK
  unfold Oper.wp
  rw [hrun]
  exact hK v w' ι' hS hA hr

theorem does_says {o : Oper} {a : Act} {r : AV} {s : Sem Value} (hS : SR X F B ι H w) (he : execOp a.eval o = (do pure (.value (← s)))) (h : ∃ y, Rel (bad F ι H) ι H w r y ∧ ∀ w', Same w w' → s.run P w' = .ok y w') :
    Does P X F B ι H w o a r H := by
  obtain ⟨y, hr, hrun⟩ := h
  refine does_value (v := y) (w' := w) ?_ hS (.refl _ _ _) hr
  rw [he, Sem.run_bind, hrun w (Same.refl w)]; rfl

theorem does_all {o : Oper} {a : Act} {r : AV} {s : Sem Value} (hS : SR X F B ι H w) (he : execOp a.eval o = (do pure (.value (← s)))) (h : ∃ y, Rel (bad F ι H) ι H w r y ∧ ∀ w', s.run P w' = .ok y w') :
    Does P X F B ι H w o a r H := does_says hS he (let ⟨y, h1, h2⟩ := h; ⟨y, h1, fun w' _ => h2 w'⟩)

theorem opds_rel {e : Env} {a : Act} (hev : ∀ {o : Operand} {x : Opd}, trOpd o = some x → Rel N ι H w (x.ev X e) (a.eval o)) :
    ∀ {os : List Operand} {xs : List Opd}, trOpds os = some xs → All2 (Rel N ι H w) (xs.map (·.ev X e)) (os.map a.eval)
  | [], xs, h => by
    obtain rfl := Option.some.inj h
    exact .nil
  | o :: os, xs, h => by
    simp only [trOpds] at h
    split at h
    · rename_i y ys h1 h2
      obtain rfl := Option.some.inj h
      exact .cons (hev h1) (opds_rel hev h2)
    · cases h

theorem opt_rel {e : Env} {a : Act} (hev : ∀ {o : Operand} {x : Opd}, trOpd o = some x → Rel N ι H w (x.ev X e) (a.eval o)) {o : Option Operand} {x : Option Opd} (h : trOpt o = some x) :
    match x.map (·.ev X e), o.map a.eval with | some x, some v => Rel N ι H w x v | none, none => True | _, _ => False := by
  cases o with
  | none => obtain rfl := Option.some.inj h; trivial
  | some o =>
    simp only [trOpt] at h
    split at h
    · rename_i y hy
      obtain rfl := Option.some.inj h
      exact hev hy
    · cases h

theorem does_call (hX : CtxOK P X) {go : Nat → List AV → Key → Heap → Option (AV × Heap)} (hgo : GoSound P X go) (hS : SR X F B ι H w) {o : Oper} {a : Act} {e : Env} {c : Call} {g : Operand} {f : Opd} {as : List Opd}
    (hop : o.op = .call c) (hc : c.callee = .value g) (hev : ∀ {o : Operand} {x : Opd}, trOpd o = some x → Rel (bad F ι H) ι H w (x.ev X e) (a.eval o)) (hf : trOpd g = some f) (has : trOpds c.args.toList = some as)
    {fn : Nat} {caps : List AV} (hfn : f.ev X e = .fn fn caps) {π : Key} {r : AV} {H' : Heap} (h : callArgs X go fn (as.map (·.ev X e) ++ caps) π H = some (r, H')) : Does P X F B ι H w o a r H' := by
  intro K Q hK
  have hg := hev hf
  rw [hfn] at hg
  obtain ⟨vs, hv, hl, hr⟩ := rel_fn hg
  have ha : All2 (Rel (bad F ι H) ι H w) (as.map (·.ev X e) ++ caps) (c.args.toList.map a.eval ++ vs) := (opds_rel hev has).append (All2.of hl hr)
  obtain ⟨F0, h1, h2, h3⟩ := callArgs_callable hX hgo h
  have hb : F0.body.isNone = false := by cases hb : F0.body with | none => rw [hb] at h2; cases h2 | some _ => rfl
  have hrun : (execOp a.eval o).run P w = .ok (.enter fn (c.args.toList.map a.eval ++ vs).toArray) w := by
    simp only [execOp, hop, Sem.run_bind, resolve, hc, hv, Deferred.ofValue, Sem.run_pure, Result.andThen_ok, invoke, callFunc, run_program, h1, h3, Bool.false_eq_true, if_false, hb]
    congr 2
    simp
  unfold Oper.wp
  rw [hrun]
  refine (callArgs_says hX hgo hS ha h).mono ?_
  rintro e w' ⟨v, ι', rfl, q1, q2, q3⟩
  exact hK v w' ι' q1 q2 q3

end Go.Den
