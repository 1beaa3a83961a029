/-
  The machine's calls do what the functional reading says. Its conditions: the small code is the program's, and what is taken as it is holds.
-/
import Derived.Test.YtcahamgecejmnaaDoorDenObj
namespace Go.Den
open Go
open Go.RowKit (Below)

variable {P : Program} {X : Ctx} {F : Nat → Prop} {B : Nat} {ι : Pos} {H : Heap} {w : World} {N : Nat → Prop}

/-- A function that can be entered. -/
def Callable (P : Program) (f : Nat) : Prop := ∃ fn, P.funcs[f]? = some fn ∧ fn.body.isSome = true ∧ (fn.name == "runtime.NumGoroutine") = false

/-- What a function that is taken as it is must do. -/
def PrimOK (P : Program) (f : Nat) (p : List AV → Option AV) : Prop :=
  Callable P f ∧
  ∀ args r, p args = some r → ∀ (N : Nat → Prop) (w : World) (vs : List Value), (∀ b, N b → b < w.heap.size) → All2 (VD N w) args vs →
    Calls P f vs.toArray w (fun e w' => ∃ v, e = .returned v ∧ VD N w' r v ∧ Below w.heap.size w w')

/-- How a call ends. -/
def Post (X : Ctx) (F : Nat → Prop) (B : Nat) (ι : Pos) (H : Heap) (w : World) (r : AV) (H' : Heap) : Ending → World → Prop :=
  fun e w' => ∃ v ι', e = .returned v ∧ SR X F B ι' H' w' ∧ Adv ι H w ι' H' w' ∧ Rel (bad F ι' H') ι' H' w' r v

/-- .. and that turns the caller's blocks. -/
def WPrimOK (P : Program) (X : Ctx) (f : Nat) (q : Key → List AV → Heap → Option (AV × Heap)) : Prop :=
  Callable P f ∧ ∀ π args H r H', q π args H = some (r, H') → ∀ F B ι w (vs : List Value), SR X F B ι H w → All2 (Rel (bad F ι H) ι H w) args vs → Calls P f vs.toArray w (Post X F B ι H w r H')

structure CtxOK (P : Program) (X : Ctx) : Prop where
  mixed : P.follows .mixedOrders = true
  code : ∀ f fd, X.code f = some fd → trF P f = some fd
  prim : ∀ f p, X.prim f = some p → PrimOK P f p
  wprim : ∀ f q, X.wprim f = some q → WPrimOK P X f q

def GoSound (P : Program) (X : Ctx) (go : Nat → List AV → Key → Heap → Option (AV × Heap)) : Prop :=
  ∀ f args π H r H', go f args π H = some (r, H') → Callable P f ∧ ∀ F B ι w (vs : List Value), SR X F B ι H w → All2 (Rel (bad F ι H) ι H w) args vs → Calls P f vs.toArray w (Post X F B ι H w r H')

theorem below_adv {w' : World} (hb : Below w.heap.size w w') : Adv ι H w ι H w' :=
  ⟨hb.os, hb.tape, hb.output, hb.size, fun b h _ => hb.block b h, fun k bl h1 h2 => .inl ⟨k, bl, h1, h2, rfl⟩, fun _ => Nat.le_refl _, fun _ b' _ h => ⟨b', h, rfl, rfl, rfl⟩⟩

theorem SR.below {w' : World} (h : SR X F B ι H w) (hb : Below w.heap.size w w') : SR X F B ι H w' where
  inj := h.inj
  base := h.base
  fb := h.fb
  szB := Nat.le_trans h.szB hb.size
  blk k b hk hz := by
    obtain ⟨cs, T, hB⟩ := h.blk k b hk hz
    exact ⟨cs, T, hB.adv (below_adv hb) (hb.block _ (h.lt (by rw [hk]; rfl)))⟩
  obj k b hk hz := (h.obj k b hk hz).keep (hb.block _ (h.lt (by rw [hk]; rfl)))
  glob n v hg := (h.glob n v hg).mono (below_adv (ι := ι) (H := H) hb).later

theorem SR.bad_lt (h : SR X F B ι H w) {b : Nat} (hb : bad F ι H b) : b < w.heap.size := by
  rcases hb with hb | ⟨k, bl, hk, _, rfl⟩
  · exact Nat.lt_of_lt_of_le (h.fb b hb) h.szB
  · exact h.lt (by rw [hk]; rfl)

theorem adv_below {H0 : Heap} {ι' : Pos} {H' : Heap} {w' : World} (h : Adv ι H0 w ι' H' w') (h0 : ∀ k, (H0 k).2 = none) : Below w.heap.size w w' :=
  ⟨h.os, h.tape, h.output, h.size, fun b hb => h.keep b hb (by rintro ⟨k, bl, hk, _⟩; rw [h0 k] at hk; cases hk)⟩

theorem bad_none {F : Nat → Prop} {b : Nat} : bad F ι Heap.none b ↔ F b := by
  constructor
  · rintro (h | ⟨k, bl, hk, _⟩)
    · exact h
    · cases hk
  · exact .inl

/-- A state for a callee that is handed nothing that may turn. -/
theorem SR.callee (h : SR X F B ι H w) : SR X (bad F ι H) w.heap.size ι Heap.none w where
  inj k _ hk := by cases hk
  base k hk := by cases hk
  fb b hb := h.bad_lt hb
  szB := Nat.le_refl _
  blk k b hk := by cases hk
  obj k b hk := by cases hk
  glob n v hg := (h.glob n v hg).mono (fun b _ hn => ⟨fun e => hn (bad_none.1 e), rfl⟩)

/-- A call that is handed values that are only read. -/
theorem pure_says (hX : CtxOK P X) {go : Nat → List AV → Key → Heap → Option (AV × Heap)} (hgo : GoSound P X go) {K : Heap} (hS : SR X F B ι K w) {f : Nat} {args : List AV} {vs : List Value} (ha : All2 (VD (bad F ι K) w) args vs) {r : AV}
    (h : ansA X go f args = some r) : Calls P f vs.toArray w (fun e w' => ∃ v, e = .returned v ∧ VD (bad F ι K) w' r v ∧ Below w.heap.size w w') := by
  unfold ansA at h
  split at h
  · rename_i p hp
    exact (hX.prim f p hp).2 args r h _ w vs (fun b hb => hS.bad_lt hb) ha
  · split at h
    · rename_i r0 H1 hr
      refine ((hgo f args [] Heap.none r0 H1 hr).2 (bad F ι K) w.heap.size ι w vs hS.callee (ha.imp (fun x v hv => .still _ _ (hv.mono (fun b _ hn => ⟨fun e => hn (bad_none.1 e), rfl⟩))))).mono ?_
      rintro e w' ⟨v, ι', rfl, hS', hA, hr'⟩
      have hlive := snap_own (H := H1) r0 r h
      refine ⟨v, rfl, ?_, adv_below hA (fun _ => rfl)⟩
      exact (snap_vd hS' (kill_less H1 r0) r0 r v h (kill_frz H1 r0 hlive) hr').mono (fun b _ hn => ⟨fun e => hn (.inl e), rfl⟩)
    · cases h

theorem ansA_callable (hX : CtxOK P X) {go : Nat → List AV → Key → Heap → Option (AV × Heap)} (hgo : GoSound P X go) {f : Nat} {args : List AV} {r : AV} (h : ansA X go f args = some r) : Callable P f := by
  unfold ansA at h
  split at h
  · rename_i p hp
    exact (hX.prim f p hp).1
  · split at h
    · rename_i r0 H1 hr
      exact (hgo f args [] Heap.none r0 H1 hr).1
    · cases h

theorem callArgs_callable (hX : CtxOK P X) {go : Nat → List AV → Key → Heap → Option (AV × Heap)} (hgo : GoSound P X go) {f : Nat} {args : List AV} {π : Key} {r : AV} {H' : Heap} (h : callArgs X go f args π H = some (r, H')) : Callable P f := by
  unfold callArgs at h
  split at h
  · rename_i q hq; exact (hX.wprim f q hq).1
  unfold callArgs0 at h
  split at h
  · exact (hgo f args π H r H' h).1
  · split at h
    · split at h
      · rename_i r0 e; exact ansA_callable hX hgo e
      · cases h
    · exact (hgo f args π H r H' h).1

theorem all2_pure {args : List AV} {vs : List Value} (hp : AV.pureL args = true) (ha : All2 (Rel (bad F ι H) ι H w) args vs) : All2 (VD (bad F ι H) w) args vs :=
  All2.of ha.length (fun i x y h1 h2 => rel_pure (ha.get i x y h1 h2) (pureL_get hp i x h1))

theorem callArgs_says (hX : CtxOK P X) {go : Nat → List AV → Key → Heap → Option (AV × Heap)} (hgo : GoSound P X go) (hS : SR X F B ι H w) {f : Nat} {args : List AV} {vs : List Value} (ha : All2 (Rel (bad F ι H) ι H w) args vs)
    {π : Key} {r : AV} {H' : Heap} (h : callArgs X go f args π H = some (r, H')) : Calls P f vs.toArray w (Post X F B ι H w r H') := by
  unfold callArgs at h
  split at h
  · rename_i q hq; exact (hX.wprim f q hq).2 π args H r H' h F B ι w vs hS ha
  unfold callArgs0 at h
  split at h
  · exact (hgo f args π H r H' h).2 F B ι w vs hS ha
  · split at h
    · rename_i as has
      obtain ⟨hK, hA⟩ := killL_SR H args hS
      have hvd := snapL_vd hS (killL_less H args) args as vs has (killL_frz H args (snapL_own args as has)) ha
      split at h
      · rename_i r0 e
        split at h
        · rename_i hf
          obtain ⟨rfl, rfl⟩ := Prod.mk.inj (Option.some.inj h)
          refine (pure_says hX hgo hK hvd e).mono ?_
          rintro e w' ⟨v, rfl, hv, hb⟩
          exact ⟨v, ι, rfl, hS.below hb, below_adv hb, .still _ _ (vd_flat hv hf)⟩
        · obtain ⟨rfl, rfl⟩ := Prod.mk.inj (Option.some.inj h)
          refine (pure_says hX hgo hK hvd e).mono ?_
          rintro e w' ⟨v, rfl, hv, hb⟩
          exact ⟨v, ι, rfl, hK.below hb, hA.trans (below_adv hb), .still _ _ hv⟩
      · cases h
    · exact (hgo f args π H r H' h).2 F B ι w vs hS ha

end Go.Den
