/-
  Operations that leave memory alone, the last ones. Its conditions: none.
-/
import Derived.Test.YtcahamgecejmnaaDoorDenOps2
namespace Go.Den
open Go

variable {P : Program} {X : Ctx} {F : Nat → Prop} {B : Nat} {ι : Pos} {H : Heap} {w : World} {N : Nat → Prop}

theorem All2.length {α β : Type} {R : α → β → Prop} : ∀ {xs : List α} {ys : List β}, All2 R xs ys → xs.length = ys.length
  | _, _, .nil => rfl
  | _, _, .cons _ t => congrArg (· + 1) t.length
theorem All2.get {α β : Type} {R : α → β → Prop} : ∀ {xs : List α} {ys : List β}, All2 R xs ys → ∀ (i : Nat) (x : α) (y : β), xs[i]? = some x → ys[i]? = some y → R x y
  | _, _, .nil, i, x, y, h, _ => by simp at h
  | _, _, .cons h t, i, x, y, h1, h2 => by
    cases i with
    | zero => simp at h1 h2; subst h1; subst h2; exact h
    | succ i => simp at h1 h2; exact t.get i x y h1 h2
theorem All2.append {α β : Type} {R : α → β → Prop} : ∀ {xs : List α} {ys : List β} {us : List α} {vs : List β}, All2 R xs ys → All2 R us vs → All2 R (xs ++ us) (ys ++ vs)
  | _, _, _, _, .nil, g => g
  | _, _, _, _, .cons h t, g => .cons h (t.append g)
theorem All2.of {α β : Type} {R : α → β → Prop} : ∀ {xs : List α} {ys : List β}, xs.length = ys.length → (∀ (i : Nat) (x : α) (y : β), xs[i]? = some x → ys[i]? = some y → R x y) → All2 R xs ys
  | [], [], _, _ => .nil
  | [], _ :: _, h, _ => by cases h
  | _ :: _, [], h, _ => by cases h
  | x :: xs, y :: ys, hl, h => .cons (h 0 x y rfl rfl) (All2.of (by simpa using hl) (fun i a b h1 h2 => h (i + 1) a b (by simpa using h1) (by simpa using h2)))
theorem All2.imp {α β : Type} {R S : α → β → Prop} (f : ∀ x y, R x y → S x y) : ∀ {xs : List α} {ys : List β}, All2 R xs ys → All2 S xs ys
  | _, _, .nil => .nil
  | _, _, .cons h t => .cons (f _ _ h) (t.imp f)

theorem isZero_int {x : AV} (h : isZero x = true) : ∃ k, x = .int k 0 := by
  cases x with
  | int k n => exact ⟨k, by simp [isZero] at h; rw [h]⟩
  | _ => cases h

theorem slice3_says {t el : TypeId} {s : Nat} (hu : P.underlying t = some (.slice el)) (hs : sizeT P el = some s) {x r mx : AV} {v mx' : Value} {lo hi : Option AV} {lo' hi' : Option Value} (hx : Rel N ι H w x v)
    (hm : Rel N ι H w mx mx')
    (h1 : match lo, lo' with | some x, some v => Rel N ι H w x v | none, none => True | _, _ => False)
    (h2 : match hi, hi' with | some x, some v => Rel N ι H w x v | none, none => True | _, _ => False)
    (hz : zero3 mx hi lo = true)
    (h : slice3A x = some r) : ∃ y, Rel N ι H w r y ∧ ∀ w', (Instr.sliceAt t v lo' hi' (some mx')).run P w' = .ok y w' := by
  unfold zero3 at hz
  simp only [Bool.and_eq_true] at hz
  obtain ⟨⟨z1, z2⟩, z3⟩ := hz
  obtain ⟨km, rfl⟩ := isZero_int z1
  obtain rfl := rel_int hm
  cases hi with
  | none => cases z2
  | some hi =>
    obtain ⟨kh, rfl⟩ := isZero_int z2
    cases hi' with
    | none => exact h2.elim
    | some hv =>
      obtain rfl := rel_int h2
      have run : ∀ (a : Option Addr) (n c : Nat) (w' : World), (Instr.sliceAt t (.slice a n c) lo' (some (.int kh 0)) (some (.int km 0))).run P w' = .ok (.slice a 0 0) w' := by
        intro a n c w'
        have c1 : (0 : Int) ≤ 0 ∧ (0 : Int) ≤ (c : Int) := by omega
        have c2 : (0 : Int) ≤ 0 ∧ (0 : Int) ≤ ((0 : Nat) : Int) := by omega
        cases lo with
        | none =>
          cases lo' with
          | some _ => exact h1.elim
          | none =>
            simp only [Instr.sliceAt, Instr.slice, Instr.sliceBounds, Instr.sliceBound, asIntOf, Sem.run_bind, run_underlying hu, Result.andThen_ok, Sem.run_pure, Sem.run_ite, if_pos c1, Int.toNat_zero, if_pos c2, run_sizeOf hs, if_true, Nat.sub_self]
        | some lo =>
          obtain ⟨kl, rfl⟩ := isZero_int z3
          cases lo' with
          | none => exact h1.elim
          | some lv =>
            obtain rfl := rel_int h1
            simp only [Instr.sliceAt, Instr.slice, Instr.sliceBounds, Instr.sliceBound, asIntOf, Sem.run_bind, run_underlying hu, Result.andThen_ok, Sem.run_pure, Sem.run_ite, if_pos c1, Int.toNat_zero, if_pos c2, run_sizeOf hs, if_true, Nat.sub_self]
      cases x with
      | sl l =>
        obtain rfl := Option.some.inj h
        cases hx with
        | still _ _ hv => cases hv with
          | sl0 a c _ => exact ⟨_, .still _ _ (.zs false a (fun e => by cases e)), run _ _ _⟩
          | sl _ _ b o cap vf hc hszs hw hr => exact ⟨_, .still _ _ (.zs false (some ⟨b, o, none⟩) (fun e => by cases e)), run _ _ _⟩
      | zs nl =>
        obtain rfl := Option.some.inj h
        cases hx with
        | still _ _ hv => cases hv with
          | zs _ a ha => exact ⟨_, .still _ _ (.zs nl a ha), run _ _ _⟩
      | own k ver off len =>
        obtain rfl := Option.some.inj h
        cases hx with
        | still _ _ hv => cases hv
        | own _ _ _ _ c b hb _ g1 g2 _ g3 => exact ⟨_, .still _ _ (.zs false (some _) (fun e => by cases e)), run _ _ _⟩
        | ownDead => exact ⟨_, .still _ _ (.zs false (some _) (fun e => by cases e)), run _ _ _⟩
      | _ => cases h

theorem extract_says {x r : AV} {v : Value} {i : Nat} (hx : Rel N ι H w x v) (h : extractA i x = some r) : ∃ y, Rel N ι H w r y ∧ ∀ w', (Instr.extract v i).run P w' = .ok y w' := by
  cases x with
  | tup cs =>
    obtain ⟨vs, rfl, hl, hr⟩ := rel_tup hx
    simp only [extractA] at h
    have hlt : i < vs.length := by rw [← hl]; exact (List.getElem?_eq_some_iff.1 h).1
    refine ⟨vs[i], hr i r _ h (List.getElem?_eq_getElem hlt), fun w' => ?_⟩
    simp [Instr.extract, hlt]
  | _ => cases h

theorem field_says {t : TypeId} {fs : Array Field} {f : Nat} {fd : Field} {s : Nat} {g : Bool} (hu : P.underlying t = some (.struct fs)) (hf : fs[f]? = some fd) (hs : sizeT P fd.type = some s) (hg : aggT P fd.type = some g)
    {x r : AV} {v : Value} (hx : Rel N ι H w x v) (h : fieldA fd.offset s g x = some r) :
    ∃ y, Rel N ι H w r y ∧ ∀ w', (Instr.field t v f).run P w' = .ok y w' := by
  cases x with
  | agg cs =>
    obtain ⟨vs, rfl, hl, h1, hr⟩ := rel_agg hx
    obtain ⟨u, hu', hrun⟩ := run_part (P := P) hg hs hl h1 hr h
    refine ⟨u, hu', fun w' => ?_⟩
    simp only [Instr.field, Sem.run_bind, run_underlying hu, Result.andThen_ok, hf, asAgg, Sem.run_pure, hrun]
  | _ => cases h

theorem lenStr_says {t ty : TypeId} (hu : P.underlying t = some .string) {x : AV} {v : Value} {n : Nat} (hx : Rel N ι H w x v) (h : lenA true x = some n) :
    ∀ w', (Builtin.len_ #[t] ty #[v]).run P w' = .ok (.int .i64 n) w' := by
  intro w'
  cases x with
  | str s =>
    obtain rfl := Option.some.inj h
    obtain rfl := rel_str hx
    simp [Builtin.len_, run_underlying hu, size_mk, goInt]
  | _ => cases h

theorem lenSl_says {t ty e : TypeId} (hu : P.underlying t = some (.slice e)) {x : AV} {v : Value} {n : Nat} (hx : Rel N ι H w x v) (h : lenA false x = some n) :
    ∀ w', (Builtin.len_ #[t] ty #[v]).run P w' = .ok (.int .i64 n) w' := by
  have run : ∀ (a : Option Addr) (n c : Nat) (w' : World), (Builtin.len_ #[t] ty #[.slice a n c]).run P w' = .ok (.int .i64 n) w' := by
    intro a n c w'
    simp [Builtin.len_, run_underlying hu, goInt]
  intro w'
  cases x with
  | sl l =>
    obtain rfl := Option.some.inj h
    cases hx with
    | still _ _ hv => cases hv with
      | sl0 => exact run _ _ _ _
      | sl => exact run _ _ _ _
  | zs nl =>
    obtain rfl := Option.some.inj h
    cases hx with
    | still _ _ hv => cases hv with
      | zs => exact run _ _ _ _
  | own k ver off len =>
    obtain rfl := Option.some.inj h
    cases hx with
    | still _ _ hv => cases hv
    | own => exact run _ _ _ _
    | ownDead => exact run _ _ _ _
  | _ => cases h

/-! ### the greatest, the least -/
theorem max_says {x y r : AV} {v u : Value} (hx : Rel N ι H w x v) (hy : Rel N ι H w y u) (h : maxA x y = some r) : ∃ z, Rel N ι H w r z ∧ ∀ w', (Builtin.max2 v u).run P w' = .ok z w' := by
  cases x with
  | int k a => cases y with
    | int k' b =>
      obtain rfl := rel_int hx
      obtain rfl := rel_int hy
      simp only [maxA] at h
      split at h
      · obtain rfl := Option.some.inj h
        exact ⟨_, .still _ _ (.int _ _), fun w' => by simp [Builtin.max2]⟩
      · cases h
    | _ => cases h
  | _ => cases h
theorem min_says {x y r : AV} {v u : Value} (hx : Rel N ι H w x v) (hy : Rel N ι H w y u) (h : minA x y = some r) : ∃ z, Rel N ι H w r z ∧ ∀ w', (Builtin.min2 v u).run P w' = .ok z w' := by
  cases x with
  | int k a => cases y with
    | int k' b =>
      obtain rfl := rel_int hx
      obtain rfl := rel_int hy
      simp only [minA] at h
      split at h
      · obtain rfl := Option.some.inj h
        exact ⟨_, .still _ _ (.int _ _), fun w' => by simp [Builtin.min2]⟩
      · cases h
    | _ => cases h
  | _ => cases h

theorem fold_says {f : AV → AV → Option AV} {g : Value → Value → Sem Value}
    (hfg : ∀ {x y r : AV} {v u : Value}, Rel N ι H w x v → Rel N ι H w y u → f x y = some r → ∃ z, Rel N ι H w r z ∧ ∀ w', (g v u).run P w' = .ok z w') :
    ∀ {xs : List AV} {vs : List Value} {x r : AV} {v : Value}, Rel N ι H w x v → All2 (Rel N ι H w) xs vs → foldA f x xs = some r →
      ∃ z, Rel N ι H w r z ∧ ∀ w', (vs.foldlM g v).run P w' = .ok z w'
  | [], vs, x, r, v, hx, hl, h => by
    cases hl
    obtain rfl := Option.some.inj h
    exact ⟨v, hx, fun w' => rfl⟩
  | y :: xs, vs, x, r, v, hx, hl, h => by
    cases hl with
    | cons hy hl =>
      simp only [foldA] at h
      split at h
      · rename_i z hz
        obtain ⟨z', hz', hrun⟩ := hfg hx hy hz
        obtain ⟨u, hu, hrun'⟩ := fold_says hfg hz' hl h
        refine ⟨u, hu, fun w' => ?_⟩
        simp only [List.foldlM_cons, Sem.run_bind, hrun, Result.andThen_ok, hrun']
      · cases h

end Go.Den
