/-
  Equality with nil, and what the comparison's operation says. Its conditions: none.
-/
import Derived.Test.YtcahamgecejmnaaDoorDenEq
namespace Go.Den
open Go

variable {P : Program} {X : Ctx} {F : Nat → Prop} {B : Nat} {ι : Pos} {H : Heap} {w : World} {N : Nat → Prop}

/-- The machine's comparison, both ways, of two values that aren't both numbers or texts. -/
def Held (P : Program) (t : TypeId) (x y : Operand) (v u : Value) (r : Bool) : Prop :=
  ∀ (neg : Bool) (w' : World), (do eqGuard (if neg then .neq else .eql) t x y v u; binOp (if neg then .neq else .eql) t v u : Sem Value).run P w' = .ok (.bool (if neg then !r else r)) w'

theorem held_of {t : TypeId} {x y : Operand} {v u : Value} {r : Bool} (h1 : ∀ (op : BinOp) (w' : World), (eqGuard op t x y v u).run P w' = .ok () w')
    (h2 : binOp .eql t v u = (do pure (.bool (← Op.equal t v u)))) (h3 : binOp .neq t v u = (do pure (.bool (!(← Op.equal t v u))))) (h4 : ∀ w', (Op.equalIn 10000 t v u).run P w' = .ok r w') : Held P t x y v u r := by
  intro neg w'
  cases neg
  · simp only [Bool.false_eq_true, if_false, Sem.run_bind, h1, Result.andThen_ok, h2, Op.equal, Op.maxDepth, h4, Sem.run_pure]
  · simp only [if_true, Sem.run_bind, h1, Result.andThen_ok, h3, Op.equal, Op.maxDepth, h4, Sem.run_pure]

theorem ptr_eq {d : Nat} {t e : TypeId} (hu : P.underlying t = some (.pointer e)) (a b : Option Addr) (hab : a = none ∨ b = none) (w' : World) :
    (Op.equalIn (d + 1) t (.pointer a) (.pointer b)).run P w' = .ok (a.isNone && b.isNone) w' := by
  rcases hab with rfl | rfl
  · cases b <;> simp [Op.equalIn, run_underlying hu]
  · cases a <;> simp [Op.equalIn, run_underlying hu]
theorem slice_eq {d : Nat} {t e : TypeId} (hu : P.underlying t = some (.slice e)) (a : Option Addr) (n c m k : Nat) (w' : World) :
    (Op.equalIn (d + 1) t (.slice a n c) (.slice none m k)).run P w' = .ok a.isNone w' := by
  cases a <;> simp [Op.equalIn, run_underlying hu]
theorem map_eq {d : Nat} {t k e : TypeId} (hu : P.underlying t = some (.map k e)) (a : Option Nat) (w' : World) :
    (Op.equalIn (d + 1) t (.map a) (.map none)).run P w' = .ok a.isNone w' := by
  cases a <;> simp [Op.equalIn, run_underlying hu]
theorem nilfn_eq {d : Nat} {t : TypeId} {a b : Array TypeId} {c : Bool} (hu : P.underlying t = some (.func a b c)) (w' : World) : (Op.equalIn (d + 1) t .nilFunc .nilFunc).run P w' = .ok true w' := by
  simp [Op.equalIn, run_underlying hu]
theorem fn_eq {d : Nat} {t : TypeId} {a b : Array TypeId} {c : Bool} (hu : P.underlying t = some (.func a b c)) (f : Fn) (p q : Array Value) (w' : World) : (Op.equalIn (d + 1) t (.func f p q) .nilFunc).run P w' = .ok false w' := by
  simp [Op.equalIn, run_underlying hu]
theorem nilif_eq {d : Nat} {t : TypeId} {ms : Array (String × TypeId)} (hu : P.underlying t = some (.interface ms)) (w' : World) : (Op.equalIn (d + 1) t .nilIface .nilIface).run P w' = .ok true w' := by
  simp [Op.equalIn, run_underlying hu]
theorem iface_eq {d : Nat} {t : TypeId} {ms : Array (String × TypeId)} (hu : P.underlying t = some (.interface ms)) (e : TypeId) (v : Value) (w' : World) : (Op.equalIn (d + 1) t (.iface e v) .nilIface).run P w' = .ok false w' := by
  simp [Op.equalIn, run_underlying hu]

theorem ptr_held {t e : TypeId} (hu : P.underlying t = some (.pointer e)) {x y : Operand} (a b : Option Addr) (hab : a = none ∨ b = none) : Held P t x y (.pointer a) (.pointer b) (a.isNone && b.isNone) :=
  held_of (fun op w' => by rw [eqGuard_at_pointer]; rfl) (by simp [binOp]) (by simp [binOp]) (ptr_eq (d := 9999) hu a b hab)
theorem slice_held {t e : TypeId} (hu : P.underlying t = some (.slice e)) {x y : Operand} (a : Option Addr) (n c m k : Nat) : Held P t x y (.slice a n c) (.slice none m k) a.isNone :=
  held_of (fun op w' => by rw [eqGuard_at_slice]; rfl) (by simp [binOp]) (by simp [binOp]) (slice_eq (d := 9999) hu a n c m k)
theorem map_held {t k e : TypeId} (hu : P.underlying t = some (.map k e)) {x y : Operand} (a : Option Nat) : Held P t x y (.map a) (.map none) a.isNone :=
  held_of (fun op w' => by rw [eqGuard_at_map]; rfl) (by simp [binOp]) (by simp [binOp]) (map_eq (d := 9999) hu a)
theorem nilfn_held {t : TypeId} {a b : Array TypeId} {c : Bool} (hu : P.underlying t = some (.func a b c)) {x y : Operand} : Held P t x y .nilFunc .nilFunc true :=
  held_of (fun op w' => by rw [eqGuard_at_nilFunc]; rfl) (by simp [binOp]) (by simp [binOp]) (nilfn_eq (d := 9999) hu)
theorem fn_held {t : TypeId} {a b : Array TypeId} {c : Bool} (hu : P.underlying t = some (.func a b c)) {x y : Operand} (f : Fn) (p q : Array Value) : Held P t x y (.func f p q) .nilFunc false :=
  held_of (fun op w' => by rw [eqGuard_at_func]; rfl) (by simp [binOp]) (by simp [binOp]) (fn_eq (d := 9999) hu f p q)
theorem nilif_held {t : TypeId} {ms : Array (String × TypeId)} (hu : P.underlying t = some (.interface ms)) {x : Operand} {c : Value} : Held P t x (.const c) .nilIface .nilIface true :=
  held_of (fun op w' => by rw [eqGuard_nil_constR]; rfl) (by simp [binOp]) (by simp [binOp]) (nilif_eq (d := 9999) hu)
theorem iface_held {t : TypeId} {ms : Array (String × TypeId)} (hu : P.underlying t = some (.interface ms)) {x y : Operand} (d : TypeId) (v : Value) : Held P t x y (.iface d v) .nilIface false :=
  held_of (fun op w' => by rw [eqGuard_at_iface]; rfl) (by simp [binOp]) (by simp [binOp]) (iface_eq (d := 9999) hu d v)

theorem agg_held {t : TypeId} (hg : P.eqGuardType P.depth t = false) {x y : Operand} {xs ys : Array Value} {r : Bool} (h : ∀ w', (Op.equalIn 10000 t (.agg xs) (.agg ys)).run P w' = .ok r w') : Held P t x y (.agg xs) (.agg ys) r :=
  held_of (fun op w' => run_eqGuard_agg w' op t x y xs ys hg) (by simp [binOp]) (by simp [binOp]) h

theorem bool_eq {d : Nat} {t : TypeId} (hu : P.underlying t = some .bool) (a b : Bool) (w' : World) : (Op.equalIn (d + 1) t (.bool a) (.bool b)).run P w' = .ok (a == b) w' := run_equalIn_bool' w' d t a b hu
theorem bool_held {t : TypeId} (hu : P.underlying t = some .bool) {x y : Operand} (a b : Bool) : Held P t x y (.bool a) (.bool b) (a == b) :=
  held_of (fun op w' => by rw [eqGuard_at_bool]; rfl) (by simp [binOp]) (by simp [binOp]) (bool_eq (d := 9999) hu a b)

theorem rel_nilp {v : Value} (h : Rel N ι H w .nilp v) : v = .pointer none := by cases h with | still _ _ h => cases h; rfl
theorem rel_nilfn {v : Value} (h : Rel N ι H w .nilfn v) : v = .nilFunc := by cases h with | still _ _ h => cases h; rfl
theorem rel_nilmap {v : Value} (h : Rel N ι H w .nilmap v) : v = .map none := by cases h with | still _ _ h => cases h; rfl
theorem rel_nilif {v : Value} (h : Rel N ι H w .nilif v) : v = .nilIface := by cases h with | still _ _ h => cases h; rfl
theorem rel_zs {nl : Bool} {v : Value} (h : Rel N ι H w (.zs nl) v) : ∃ a, v = .slice a 0 0 ∧ (nl = true → a = none) := by cases h with | still _ _ h => cases h with | zs _ a h => exact ⟨a, rfl, h⟩
theorem rel_sl {l : List AV} {v : Value} (h : Rel N ι H w (.sl l) v) : ∃ a c, v = .slice a l.length c ∧ (l ≠ [] → a.isNone = false) := by
  cases h with
  | still _ _ h => cases h with
    | sl0 a c _ => exact ⟨a, c, rfl, fun h => absurd rfl h⟩
    | sl => exact ⟨_, _, rfl, fun _ => rfl⟩
theorem rel_own {k : Key} {ver off len : Nat} {v : Value} (h : Rel N ι H w (.own k ver off len) v) : ∃ a c, v = .slice (some a) len c := by
  cases h with
  | still _ _ h => cases h
  | own => exact ⟨_, _, rfl⟩
  | ownDead => exact ⟨_, _, rfl⟩
theorem rel_iface {t : Nat} {x : AV} {v : Value} (h : Rel N ι H w (.iface t x) v) : ∃ u, v = .iface t u ∧ Rel N ι H w x u := by
  cases h with
  | still _ _ h => cases h with | iface _ _ u h => exact ⟨u, rfl, .still _ _ h⟩
  | iface _ _ u h => exact ⟨u, rfl, h⟩

/-- The comparison as it stands in the program. -/
theorem eqs_says {t : TypeId} {q : EqK} {x y : Operand} {a b : AV} {v u : Value} {r : Bool} (ha : Rel N ι H w a v) (hb : Rel N ι H w b u)
    (hq : match q with
      | .bool => P.underlying t = some .bool
      | .cells l => (∃ n, n ≤ 9999 ∧ eqT P (n + 1) t = some l) ∧ (∃ fs, P.underlying t = some (.struct fs)) ∧ P.eqGuardType P.depth t = false
      | .ptr => ∃ e, P.underlying t = some (.pointer e)
      | .slice => ∃ e, P.underlying t = some (.slice e)
      | .map => ∃ k e, P.underlying t = some (.map k e)
      | .func => ∃ a b c, P.underlying t = some (.func a b c)
      | .iface => (∃ ms, P.underlying t = some (.interface ms)) ∧ ∃ c, y = .const c)
    (h : eqA q a b = some r) : Held P t x y v u r := by
  cases q with
  | bool =>
    cases a with
    | bool p => cases b with
      | bool q =>
        obtain rfl := Option.some.inj h
        obtain rfl := rel_bool ha
        obtain rfl := rel_bool hb
        exact bool_held hq p q
      | _ => cases h
    | _ => cases h
  | cells l =>
    obtain ⟨⟨n, hn, h1⟩, h2, h3⟩ := hq
    obtain ⟨xs, ys, rfl, rfl, hrun⟩ := eqA_cells hn h1 h2 ha hb h
    exact agg_held h3 hrun
  | ptr =>
    obtain ⟨e, hu⟩ := hq
    have some1 : ∀ {z : AV} {z' : Value}, Rel N ι H w z z' → ((∃ k ver i j, z = .ptr k ver i j) ∨ ∃ e j, z = .rp e j) → ∃ ad, z' = .pointer (some ad) := fun h1 h2 => by
      obtain ⟨b, o, e⟩ := addr_form h1 h2; exact ⟨_, e⟩
    cases a with
    | nilp =>
      obtain rfl := rel_nilp ha
      cases b with
      | nilp => obtain rfl := Option.some.inj h; obtain rfl := rel_nilp hb; exact ptr_held hu none none (.inl rfl)
      | ptr k ver i j => obtain rfl := Option.some.inj h; obtain ⟨ad, rfl⟩ := some1 hb (.inl ⟨_, _, _, _, rfl⟩); exact ptr_held hu none (some ad) (.inl rfl)
      | rp e j => obtain rfl := Option.some.inj h; obtain ⟨ad, rfl⟩ := some1 hb (.inr ⟨_, _, rfl⟩); exact ptr_held hu none (some ad) (.inl rfl)
      | _ => cases h
    | ptr k ver i j =>
      cases b with
      | nilp => obtain rfl := Option.some.inj h; obtain rfl := rel_nilp hb; obtain ⟨ad, rfl⟩ := some1 ha (.inl ⟨_, _, _, _, rfl⟩); exact ptr_held hu (some ad) none (.inr rfl)
      | _ => cases h
    | rp e j =>
      cases b with
      | nilp => obtain rfl := Option.some.inj h; obtain rfl := rel_nilp hb; obtain ⟨ad, rfl⟩ := some1 ha (.inr ⟨_, _, rfl⟩); exact ptr_held hu (some ad) none (.inr rfl)
      | _ => cases h
    | _ => cases h
  | slice =>
    obtain ⟨e, hu⟩ := hq
    cases b with
    | zs nl =>
      cases nl with
      | false => cases a <;> cases h
      | true =>
        obtain ⟨ad, rfl, hn⟩ := rel_zs hb
        obtain rfl : ad = none := hn rfl
        cases a with
        | zs nl =>
          cases nl with
          | false => simp [eqA] at h
          | true => obtain rfl := Option.some.inj h; obtain ⟨ad, rfl, hn⟩ := rel_zs ha; obtain rfl := hn rfl; exact slice_held hu none _ _ _ _
        | sl l =>
          cases l with
          | nil => simp [eqA] at h
          | cons e l =>
            obtain rfl := Option.some.inj h; obtain ⟨ad, c, rfl, hn⟩ := rel_sl ha
            have := slice_held (x := x) (y := y) hu ad (e :: l).length c 0 0
            rw [hn (by simp)] at this; exact this
        | own k ver off len => obtain rfl := Option.some.inj h; obtain ⟨ad, c, rfl⟩ := rel_own ha; exact slice_held hu (some ad) _ _ _ _
        | _ => cases h
    | _ => cases a <;> cases h
  | map =>
    obtain ⟨k, e, hu⟩ := hq
    cases b with
    | nilmap =>
      obtain rfl := rel_nilmap hb
      cases a with
      | nilmap => obtain rfl := Option.some.inj h; obtain rfl := rel_nilmap ha; exact map_held hu none
      | map k ver =>
        obtain rfl := Option.some.inj h
        cases ha with
        | still _ _ h => cases h
        | map => exact map_held hu (some _)
        | mapDead => exact map_held hu (some _)
      | _ => cases h
    | _ => cases a <;> cases h
  | func =>
    obtain ⟨p, q, c, hu⟩ := hq
    cases b with
    | nilfn =>
      obtain rfl := rel_nilfn hb
      cases a with
      | nilfn => obtain rfl := Option.some.inj h; obtain rfl := rel_nilfn ha; exact nilfn_held hu
      | fn f cs => obtain rfl := Option.some.inj h; obtain ⟨vs, rfl, _⟩ := rel_fn ha; exact fn_held hu _ _ _
      | _ => cases h
    | _ => cases a <;> cases h
  | iface =>
    obtain ⟨⟨ms, hu⟩, c, rfl⟩ := hq
    cases b with
    | nilif =>
      obtain rfl := rel_nilif hb
      cases a with
      | nilif => obtain rfl := Option.some.inj h; obtain rfl := rel_nilif ha; exact nilif_held hu
      | iface d v => obtain rfl := Option.some.inj h; obtain ⟨u, rfl, _⟩ := rel_iface ha; exact iface_held hu _ _
      | _ => cases h
    | _ => cases a <;> cases h

end Go.Den
