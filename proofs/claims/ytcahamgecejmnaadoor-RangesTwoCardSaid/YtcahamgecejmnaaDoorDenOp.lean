/-
  Each operation does what is read. Its conditions: CtxOK.
-/
import Derived.Test.YtcahamgecejmnaaDoorDenMain
namespace Go.Den
open Go
open Go.RowKit (Below)

variable {P : Program} {X : Ctx} {F : Nat → Prop} {B : Nat} {ι : Pos} {H : Heap} {w : World} {N : Nat → Prop}

theorem withH_some {H H' : Heap} {o : Option AV} {r : AV} (h : withH H o = some (r, H')) : o = some r ∧ H' = H := by
  cases o with
  | none => cases h
  | some v => obtain ⟨rfl, rfl⟩ := Prod.mk.inj (Option.some.inj h); exact ⟨rfl, rfl⟩

theorem map_array {a : Act} (parts : Array (Nat × Operand)) : parts.map (fun (i, x) => (i, a.eval x)) = (parts.toList.map fun (i, x) => (i, a.eval x)).toArray := by
  obtain ⟨l⟩ := parts
  simp

set_option maxHeartbeats 1000000 in
theorem op_does (hX : CtxOK P X) {go : Nat → List AV → Key → Heap → Option (AV × Heap)} (hgo : GoSound P X go) (hS : SR X F B ι H w) {o : Oper} {a : Act} {e : Env} {i : I}
    (hev : ∀ {o : Operand} {x : Opd}, trOpd o = some x → Rel (bad F ι H) ι H w (x.ev X e) (a.eval o)) (htr : trI P o.op = some i) {π : Key} {r : AV} {H' : Heap}
    (h : stepI X go π o.dst e H i = some (r, H')) : Does P X F B ι H w o a r H' := by
  cases hop : o.op with
  | move x =>
    rw [hop] at htr; simp only [trI] at htr
    split at htr
    · rename_i y hy
      obtain rfl := Option.some.inj htr
      obtain ⟨rfl, rfl⟩ := Prod.mk.inj (Option.some.inj h)
      exact does_value (v := a.eval x) (w' := w) (by simp only [execOp, hop, Sem.run_pure]) hS (.refl _ _ _) (hev hy)
    · cases htr
  | assign x =>
    rw [hop] at htr; simp only [trI] at htr
    split at htr
    · rename_i y hy
      obtain rfl := Option.some.inj htr
      obtain ⟨rfl, rfl⟩ := Prod.mk.inj (Option.some.inj h)
      exact does_value (v := a.eval x) (w' := w) (by simp only [execOp, hop, Sem.run_pure]) hS (.refl _ _ _) (hev hy)
    · cases htr
  | pick c x y =>
    rw [hop] at htr; simp only [trI] at htr
    split at htr
    · rename_i c' x' y' h1 h2 h3
      obtain rfl := Option.some.inj htr
      obtain ⟨h4, rfl⟩ := withH_some h
      cases hcv : c'.ev X e with
      | bool t =>
        rw [hcv] at h4
        obtain rfl := Option.some.inj h4
        have hc := hev h1
        rw [hcv] at hc
        have hc' := rel_bool hc
        refine does_value (v := if t then a.eval x else a.eval y) (w' := w) (by simp only [execOp, hop, hc', asBool, Sem.run_bind, Sem.run_pure, Result.andThen_ok]) hS (.refl _ _ _) ?_
        cases t
        · exact hev h3
        · exact hev h2
      | _ => rw [hcv] at h4; cases h4
    · cases htr
  | alloc t =>
    rw [hop] at htr; simp only [trI] at htr
    split at htr
    · rename_i s z h1 h2
      obtain rfl := Option.some.inj htr
      simp only [stepI, boxA] at h
      split at h
      · rename_i d hd
        split at h
        · rename_i hc
          obtain ⟨rfl, rfl⟩ := Prod.mk.inj (Option.some.inj h)
          simp only [Opd.ev] at hc ⊢
          obtain ⟨v, hv, hz⟩ := run_zeroT (N := bad F ι H) h2 w
          obtain ⟨u, w', ι', q1, q2, q3, q4⟩ := box_says (P := P) (π := π) (d := d) (t := t) hS (.still _ _ hv) hc.1 hc.2.1 hc.2.2
          refine does_value (v := u) (w' := w') ?_ q2 q3 q4
          simp only [Instr.box, Sem.run_bind] at q1
          simp only [execOp, hop, Instr.alloc, Sem.run_bind, hz, Result.andThen_ok]
          rw [q1]; rfl
        · cases h
      · cases h
    · cases htr
  | box t x =>
    rw [hop] at htr; simp only [trI] at htr
    split at htr
    · rename_i s y h1 h2
      obtain rfl := Option.some.inj htr
      simp only [stepI, boxA] at h
      split at h
      · rename_i d hd
        split at h
        · rename_i hc
          obtain ⟨rfl, rfl⟩ := Prod.mk.inj (Option.some.inj h)
          obtain ⟨u, w', ι', q1, q2, q3, q4⟩ := box_says (P := P) (π := π) (d := d) (t := t) hS (hev h2) hc.1 hc.2.1 hc.2.2
          refine does_value (v := u) (w' := w') ?_ q2 q3 q4
          simp only [execOp, hop, Sem.run_bind, q1, Result.andThen_ok, Sem.run_pure]
        · cases h
      · cases h
    · cases htr
  | build t parts =>
    rw [hop] at htr; simp only [trI, trBuild] at htr
    split at htr
    · rename_i fs hu
      split at htr
      · rename_i z ps h1 h2
        split at htr
        · rename_i hfs
          obtain ⟨hzs, hfs⟩ := hfs
          obtain rfl := Option.some.inj htr
          simp only [stepI] at h
          split at h
          · rename_i hall
            obtain ⟨h4, rfl⟩ := withH_some h
            cases hfill : fillA (ps.map fun p => (p.1, (p.2.2.ev X e).cells)) z.cells with
            | none => rw [hfill] at h4; cases h4
            | some cs =>
              rw [hfill] at h4
              obtain rfl := Option.some.inj h4
              refine does_all hS (s := Instr.build t (parts.map fun (i, x) => (i, a.eval x))) (by simp only [execOp, hop]) ?_
              have := build_says (P := P) hu h1 hzs h2 hfs hev hall hfill
              have e1 : parts.map (fun (i, x) => (i, a.eval x)) = (parts.toList.map fun (i, x) => (i, a.eval x)).toArray := map_array parts
              rw [e1]; exact this
          · cases h
        · cases htr
      · cases htr
    · cases htr
  | buildSlice t len parts =>
    rw [hop] at htr; simp only [trI, trBuildSlice] at htr
    split at htr
    · rename_i el hu
      split at htr
      · rename_i s z ps h1 h2 h3
        split at htr
        · rename_i hc
          obtain ⟨c1, c2, c3, c4⟩ := hc
          obtain rfl := Option.some.inj htr
          simp only [stepI] at h
          split at h
          · rename_i d hd
            split at h
            · rename_i hall
              obtain ⟨rfl, rfl⟩ := Prod.mk.inj (Option.some.inj h)
              obtain ⟨u, w', ι', q1, q2, q3, q4⟩ := buildSlice_says (P := P) (π := π) (d := d) (len := len) hu h1 h2 c1 c2 c3 c4 h3 hS hev hall
              refine does_value (v := u) (w' := w') ?_ q2 q3 q4
              have e1 : parts.map (fun (i, x) => (i, a.eval x)) = (parts.toList.map fun (i, x) => (i, a.eval x)).toArray := map_array parts
              simp only [execOp, hop, Sem.run_bind, e1, q1, Result.andThen_ok, Sem.run_pure]
            · cases h
          · cases h
        · cases htr
      · cases htr
    · cases htr
  | load t x =>
    rw [hop] at htr; simp only [trI] at htr
    split at htr
    · rename_i g s y h1 h2 h3
      obtain rfl := Option.some.inj htr
      obtain ⟨h4, rfl⟩ := withH_some h
      exact does_says hS (s := Instr.loadAt t (a.eval x)) (by simp only [execOp, hop]) (load_says h1 h2 hS (hev h3) h4)
    · cases htr
  | store t x y =>
    rw [hop] at htr; simp only [trI] at htr
    split at htr
    · rename_i s x' y' h1 h2 h3
      obtain rfl := Option.some.inj htr
      simp only [stepI] at h
      split at h
      · rename_i H1 hs
        obtain ⟨rfl, rfl⟩ := Prod.mk.inj (Option.some.inj h)
        obtain ⟨w', ι', q1, q2, q3⟩ := store_says (P := P) h1 hS (hev h2) (hev h3) hs
        intro K Q hK
        unfold Oper.wp
        have hrun : (execOp a.eval o).run P w = .ok .skip w' := by simp only [execOp, hop, Sem.run_bind, q1, Result.andThen_ok, Sem.run_pure]
        rw [hrun]
        exact hK undef w' ι' q2 q3 (.still _ _ undef_vd)
      · cases h
    · cases htr
  | nilCheck x =>
    rw [hop] at htr; simp only [trI] at htr
    split at htr
    · rename_i y hy
      obtain rfl := Option.some.inj htr
      obtain ⟨h4, rfl⟩ := withH_some h
      have hx := hev hy
      cases hv : y.ev X e with
      | ptr k v i j =>
        rw [hv] at h4 hx
        obtain rfl := Option.some.inj h4
        obtain ⟨b, o', e1⟩ := addr_form hx (.inl ⟨_, _, _, _, rfl⟩)
        exact does_value (v := a.eval x) (w' := w) (by simp only [execOp, hop, e1, Sem.run_pure]) hS (.refl _ _ _) hx
      | rp el j =>
        rw [hv] at h4 hx
        obtain rfl := Option.some.inj h4
        obtain ⟨b, o', e1⟩ := addr_form hx (.inr ⟨_, _, rfl⟩)
        exact does_value (v := a.eval x) (w' := w) (by simp only [execOp, hop, e1, Sem.run_pure]) hS (.refl _ _ _) hx
      | fn f cs =>
        rw [hv] at h4 hx
        obtain rfl := Option.some.inj h4
        obtain ⟨vs, e1, _⟩ := rel_fn hx
        exact does_value (v := a.eval x) (w' := w) (by simp only [execOp, hop, e1, Sem.run_pure]) hS (.refl _ _ _) hx
      | _ => rw [hv] at h4; cases h4
    · cases htr
  | binOp op xt x y yt =>
    rw [hop] at htr; simp only [trI, trBin] at htr
    have he : execOp a.eval o = (do pure (.value (← (do eqGuard op xt x y (a.eval x) (a.eval y); binOp op xt (a.eval x) (a.eval y))))) := by simp only [execOp, hop]
    -- numbers and texts
    have scal : ∀ (x' y' : Opd), trOpd x = some x' → trOpd y = some y' → i = .bin op x' y' → Does P X F B ι H w o a r H' := by
      rintro x' y' h1 h2 rfl
      obtain ⟨h3, rfl⟩ := withH_some h
      have hx := hev h1
      have hy := hev h2
      unfold binA at h3
      split at h3
      · rename_i k m k' m' ex ey
        rw [ex] at hx; rw [ey] at hy
        have vx := rel_int hx
        have vy := rel_int hy
        have hg : ∀ w', (do eqGuard op xt x y (a.eval x) (a.eval y); binOp op xt (a.eval x) (a.eval y) : Sem Value).run P w' = (binOp op xt (.int k m) (.int k' m')).run P w' := by
          intro w'; rw [vx, vy, eqGuard_at_int]; rfl
        split at h3
        · obtain ⟨v, hv, hrun⟩ := run_shiftA (P := P) (N := bad F ι _) (w := w) (k' := k') h3 xt
          exact does_all hS he ⟨v, .still _ _ hv, fun w' => (hg w').trans (hrun w')⟩
        · obtain ⟨v, hv, hrun⟩ := run_shiftA (P := P) (N := bad F ι _) (w := w) (k' := k') h3 xt
          exact does_all hS he ⟨v, .still _ _ hv, fun w' => (hg w').trans (hrun w')⟩
        · rename_i n1 n2
          split at h3
          · rename_i e1
            subst e1
            obtain ⟨v, hv, hrun⟩ := run_intA (P := P) (N := bad F ι _) (w := w) h3 (fun e => n1 e) (fun e => n2 e) xt
            exact does_all hS he ⟨v, .still _ _ hv, fun w' => (hg w').trans (hrun w')⟩
          · cases h3
      · rename_i s1 s2 ex ey
        rw [ex] at hx; rw [ey] at hy
        have vx := rel_str hx
        have vy := rel_str hy
        obtain ⟨v, hv, hrun⟩ := run_strA (P := P) (N := bad F ι _) (w := w) h3 xt
        refine does_all hS he ⟨v, .still _ _ hv, fun w' => ?_⟩
        rw [vx, vy, eqGuard_at_string]
        exact hrun w'
      · cases h3
    split at htr
    · rename_i x' y' h1 h2
      split at htr
      · rename_i neg hn
        have hop2 : op = if neg then .neq else .eql := by
          cases op <;> simp only [isEq] at hn <;> first | (cases hn; done) | (obtain rfl := Option.some.inj hn; rfl)
        -- held against each other by the machine's own comparison
        have held : ∀ (q : EqK), i = .eqs q neg x' y' → (match q with
            | .bool => P.underlying xt = some .bool
            | .cells l => (∃ n, n ≤ 9999 ∧ eqT P (n + 1) xt = some l) ∧ (∃ fs, P.underlying xt = some (.struct fs)) ∧ P.eqGuardType P.depth xt = false
            | .ptr => ∃ e, P.underlying xt = some (.pointer e)
            | .slice => ∃ e, P.underlying xt = some (.slice e)
            | .map => ∃ k e, P.underlying xt = some (.map k e)
            | .func => ∃ a b c, P.underlying xt = some (.func a b c)
            | .iface => (∃ ms, P.underlying xt = some (.interface ms)) ∧ ∃ c, y = .const c) → Does P X F B ι H w o a r H' := by
          rintro q rfl hq
          obtain ⟨h3, rfl⟩ := withH_some h
          cases hb : eqA q (x'.ev X e) (y'.ev X e) with
          | none => rw [hb] at h3; cases h3
          | some b =>
            rw [hb] at h3
            obtain rfl := Option.some.inj h3
            have := eqs_says (P := P) (t := xt) (x := x) (y := y) (hev h1) (hev h2) hq hb
            refine does_all hS he ⟨_, .still _ _ (.bool _), fun w' => ?_⟩
            have h3 := this neg w'
            rw [hop2]; exact h3
        simp only [trEq] at htr
        split at htr
        · rename_i hu; exact held .bool (Option.some.inj htr).symm hu
        · obtain rfl := Option.some.inj htr
          exact scal x' y' h1 h2 (by rw [hop2])
        · obtain rfl := Option.some.inj htr
          exact scal x' y' h1 h2 (by rw [hop2])
        · rename_i fs hu
          split at htr
          · rename_i l hl
            split at htr
            · cases htr
            · rename_i hg
              exact held (.cells l) (Option.some.inj htr).symm ⟨⟨19, by omega, hl⟩, ⟨fs, hu⟩, by simpa using hg⟩
          · cases htr
        · rename_i el hu; exact held .ptr (Option.some.inj htr).symm ⟨el, hu⟩
        · rename_i el hu; exact held .slice (Option.some.inj htr).symm ⟨el, hu⟩
        · rename_i k el hu; exact held .map (Option.some.inj htr).symm ⟨k, el, hu⟩
        · rename_i p q c hu; exact held .func (Option.some.inj htr).symm ⟨p, q, c, hu⟩
        · rename_i ms hu
          split at htr
          · rename_i hc
            refine held .iface (Option.some.inj htr).symm ⟨⟨ms, hu⟩, ?_⟩
            cases y with
            | const c => exact ⟨c, rfl⟩
            | _ => cases hc
          · cases htr
        · cases htr
      · split at htr
        · obtain rfl := Option.some.inj htr; exact scal x' y' h1 h2 rfl
        · obtain rfl := Option.some.inj htr; exact scal x' y' h1 h2 rfl
        · cases htr
    · cases htr
  | range t x =>
    rw [hop] at htr; simp only [trI, trRange] at htr
    split at htr
    · rename_i y hu hy
      obtain rfl := Option.some.inj htr
      obtain ⟨u, w', ι', q1, q2, q3, q4⟩ := rng_says (P := P) hu hS (hev hy) h
      exact does_value (v := u) (w' := w') (by simp only [execOp, hop, Sem.run_bind, q1, Result.andThen_ok, Sem.run_pure]) q2 q3 q4
    · cases htr
  | next x isStr =>
    rw [hop] at htr
    cases isStr with
    | false => simp only [trI] at htr; cases htr
    | true =>
      simp only [trI] at htr
      split at htr
      · rename_i y hy
        obtain rfl := Option.some.inj htr
        obtain ⟨u, w', ι', q1, q2, q3, q4⟩ := next_says (P := P) (t := o.type) hS (hev hy) h
        exact does_value (v := u) (w' := w') (by simp only [execOp, hop, Sem.run_bind, q1, Result.andThen_ok, Sem.run_pure]) q2 q3 q4
      · cases htr
  | makeMap t rv =>
    rw [hop] at htr
    cases rv with
    | some _ => simp only [trI] at htr; cases htr
    | none =>
      simp only [trI] at htr
      obtain rfl := Option.some.inj htr
      obtain ⟨u, w', ι', q1, q2, q3, q4⟩ := mkmap_says (P := P) (t := t) hS h
      exact does_value (v := u) (w' := w') (by simp only [execOp, hop, Option.map_none, Sem.run_bind, q1, Result.andThen_ok, Sem.run_pure]) q2 q3 q4
  | lookup t m x ok =>
    rw [hop] at htr; simp only [trI, trLookup] at htr
    split at htr
    · rename_i kt et hu
      split at htr
      · rename_i q z m' x' h1 h2 h3 h4
        obtain rfl := Option.some.inj htr
        obtain ⟨h5, rfl⟩ := withH_some h
        obtain ⟨u, q1, q2⟩ := lookup_says (P := P) hu h1 h2 hS (hev h3) (hev h4) h5
        exact does_value (v := u) (w' := w) (by simp only [execOp, hop, Sem.run_bind, q1, Result.andThen_ok, Sem.run_pure]) hS (.refl _ _ _) q2
      · cases htr
    · cases htr
  | mapUpdate t m x y =>
    rw [hop] at htr; simp only [trI, trMapSet] at htr
    split at htr
    · rename_i kt et hu
      split at htr
      · rename_i q m' x' y' h1 h2 h3 h4
        obtain rfl := Option.some.inj htr
        simp only [stepI] at h
        split at h
        · rename_i H1 hs
          obtain ⟨rfl, rfl⟩ := Prod.mk.inj (Option.some.inj h)
          obtain ⟨w', ι', q1, q2, q3⟩ := mapSet_says (P := P) hu h1 hS (hev h2) (hev h3) (hev h4) hs
          intro K Q hK
          unfold Oper.wp
          have hrun : (execOp a.eval o).run P w = .ok .skip w' := by simp only [execOp, hop, Sem.run_bind, q1, Result.andThen_ok, Sem.run_pure]
          rw [hrun]
          exact hK undef w' ι' q2 q3 (.still _ _ undef_vd)
        · cases h
      · cases htr
    · cases htr
  | insert t m x y =>
    rw [hop] at htr; simp only [trI, trMapSet] at htr
    split at htr
    · rename_i kt et hu
      split at htr
      · rename_i q m' x' y' h1 h2 h3 h4
        obtain rfl := Option.some.inj htr
        simp only [stepI] at h
        split at h
        · rename_i H1 hs
          obtain ⟨rfl, rfl⟩ := Prod.mk.inj (Option.some.inj h)
          obtain ⟨w', ι', q1, q2, q3⟩ := mapSet_says (P := P) hu h1 hS (hev h2) (hev h3) (hev h4) hs
          intro K Q hK
          unfold Oper.wp
          have hrun : (execOp a.eval o).run P w = .ok .skip w' := by simp only [execOp, hop, Sem.run_bind, q1, Result.andThen_ok, Sem.run_pure]
          rw [hrun]
          exact hK undef w' ι' q2 q3 (.still _ _ undef_vd)
        · cases h
      · cases htr
    · cases htr
  | unOp op ut x =>
    rw [hop] at htr; simp only [trI, trUn] at htr
    split at htr
    · rename_i y hy
      have hx := hev hy
      split at htr
      · obtain rfl := Option.some.inj htr
        obtain ⟨h4, rfl⟩ := withH_some h
        cases hv : y.ev X e with
        | bool b =>
          rw [hv] at h4 hx
          obtain rfl := Option.some.inj h4
          have vx := rel_bool hx
          exact does_all hS (s := Op.unary .not (a.eval x)) (by simp only [execOp, hop]) ⟨_, .still _ _ (.bool _), fun w' => by rw [vx]; rfl⟩
        | _ => rw [hv] at h4; cases h4
      · obtain rfl := Option.some.inj htr
        obtain ⟨h4, rfl⟩ := withH_some h
        cases hv : y.ev X e with
        | int k n =>
          rw [hv] at h4 hx
          obtain rfl := Option.some.inj h4
          have vx := rel_int hx
          exact does_all hS (s := Op.unary .neg (a.eval x)) (by simp only [execOp, hop]) ⟨_, .still _ _ (.int _ _), fun w' => by rw [vx]; rfl⟩
        | _ => rw [hv] at h4; cases h4
      · cases htr
    · cases htr
  | convert src dst x =>
    rw [hop] at htr; simp only [trI, trConv] at htr
    split at htr
    · rename_i k0 k y h1 h2 hy
      obtain rfl := Option.some.inj htr
      obtain ⟨h4, rfl⟩ := withH_some h
      have hx := hev hy
      cases hv : y.ev X e with
      | int k1 n =>
        rw [hv] at h4 hx
        obtain rfl := Option.some.inj h4
        have vx := rel_int hx
        exact does_all hS (s := convert src dst (a.eval x)) (by simp only [execOp, hop]) ⟨_, .still _ _ (.int _ _), fun w' => by rw [vx]; simp [convert, run_underlying h1, run_underlying h2, Conv.intToInt]⟩
      | _ => rw [hv] at h4; cases h4
    · rename_i y h1 h2 hy
      obtain rfl := Option.some.inj htr
      obtain ⟨h4, rfl⟩ := withH_some h
      have hx := hev hy
      cases hv : y.ev X e with
      | str s =>
        rw [hv] at h4 hx
        have h5 : r = .str s := by
          simp only [slstrA, Option.map_none, slBounds] at h4
          simpa using h4.symm
        subst h5
        have vx := rel_str hx
        exact does_all hS (s := convert src dst (a.eval x)) (by simp only [execOp, hop]) ⟨_, .still _ _ (.str _), fun w' => by rw [vx]; simp [convert, run_underlying h1, run_underlying h2]⟩
      | _ => rw [hv] at h4; cases h4
    · cases htr
  | makeFunc fn first caps =>
    rw [hop] at htr; simp only [trI, trFn] at htr
    split at htr
    · rename_i f cs h1 h2
      obtain rfl := Option.some.inj htr
      obtain ⟨rfl, rfl⟩ := Prod.mk.inj (Option.some.inj h)
      have hr := opds_rel hev h2
      have e1 : first = #[] := by simpa using h1
      refine does_all hS (s := Instr.makeFunc (.func f) (first.map a.eval) (caps.map a.eval)) (by simp only [execOp, hop]) ⟨_, .fn f _ _ hr.length hr.get, fun w' => ?_⟩
      subst e1
      obtain ⟨l⟩ := caps
      simp [Instr.makeFunc]
    · cases htr
  | slice t x lo hi mx =>
    rw [hop] at htr; simp only [trI, trSlice] at htr
    split at htr
    · rename_i x' lo' hi' mx' h1 h2 h3 h4
      split at htr
      · rename_i hu
        split at htr
        · rename_i mx0
          obtain rfl := Option.some.inj htr
          obtain ⟨h5, rfl⟩ := withH_some h
          have hm : mx = none := by
            cases mx with
            | none => rfl
            | some m => simp only [trOpt] at h4; split at h4 <;> cases h4
          subst hm
          exact does_all hS (s := Instr.sliceAt t (a.eval x) (lo.map a.eval) (hi.map a.eval) (none : Option Value)) (by simp only [execOp, hop, Option.map_none]) (slstr_says hu (hev h1) (opt_rel hev h2) (opt_rel hev h3) h5)
        · cases htr
      · rename_i el hu
        split at htr
        · rename_i s hs
          split at htr
          · cases htr
          · rename_i h0
            obtain rfl := Option.some.inj htr
            cases mx' with
            | none =>
              obtain ⟨h5, rfl⟩ := withH_some h
              have hm : mx = none := by
                cases mx with
                | none => rfl
                | some m => simp only [trOpt] at h4; split at h4 <;> cases h4
              subst hm
              exact does_all hS (s := Instr.sliceAt t (a.eval x) (lo.map a.eval) (hi.map a.eval) (none : Option Value)) (by simp only [execOp, hop, Option.map_none]) (slice_says hu hs h0 (hev h1) (opt_rel hev h2) (opt_rel hev h3) h5)
            | some m' =>
              simp only [stepI] at h
              split at h
              · rename_i hz
                obtain ⟨h5, rfl⟩ := withH_some h
                cases mx with
                | none => cases h4
                | some m =>
                  simp only [trOpt] at h4
                  split at h4
                  · rename_i m2 hm2
                    obtain rfl := Option.some.inj (Option.some.inj h4)
                    exact does_all hS (s := Instr.sliceAt t (a.eval x) (lo.map a.eval) (hi.map a.eval) (some (a.eval m))) (by simp only [execOp, hop, Option.map_some]) (slice3_says hu hs (hev h1) (hev hm2) (opt_rel hev h2) (opt_rel hev h3) hz h5)
                  · cases h4
              · cases h
        · cases htr
      · cases htr
    · cases htr
  | fieldAddr t x f =>
    rw [hop] at htr; simp only [trI, trFieldAddr] at htr
    split at htr
    · rename_i fs y hu hy
      split at htr
      · rename_i fd hf
        split at htr
        · rename_i s hs
          split at htr
          · cases htr
          · rename_i h0
            obtain rfl := Option.some.inj htr
            obtain ⟨h5, rfl⟩ := withH_some h
            exact does_all hS (s := Instr.fieldAt t (a.eval x) f) (by simp only [execOp, hop]) (fieldAddr_says hu hf hs h0 (hev hy) h5)
        · cases htr
      · cases htr
    · cases htr
  | field t x f =>
    rw [hop] at htr; simp only [trI, trField] at htr
    split at htr
    · rename_i fs y hu hy
      split at htr
      · rename_i fd hf
        split at htr
        · rename_i s g hs hg
          obtain rfl := Option.some.inj htr
          obtain ⟨h5, rfl⟩ := withH_some h
          exact does_all hS (s := Instr.field t (a.eval x) f) (by simp only [execOp, hop]) (field_says hu hf hs hg (hev hy) h5)
        · cases htr
      · cases htr
    · cases htr
  | indexAddr t x ix =>
    rw [hop] at htr; simp only [trI, trIndexAddr] at htr
    split at htr
    · rename_i el y iy hu hy hiy
      split at htr
      · rename_i s hs
        obtain rfl := Option.some.inj htr
        obtain ⟨h5, rfl⟩ := withH_some h
        exact does_all hS (s := Instr.indexAt t (a.eval x) (a.eval ix)) (by simp only [execOp, hop]) (indexAddr_says hu hs (hev hy) (hev hiy) h5)
      · cases htr
    · cases htr
  | index t x ix =>
    rw [hop] at htr; simp only [trI, trIndex] at htr
    split at htr
    · rename_i y iy hu hy hiy
      obtain rfl := Option.some.inj htr
      obtain ⟨h5, rfl⟩ := withH_some h
      exact does_all hS (s := Instr.index t (a.eval x) (a.eval ix)) (by simp only [execOp, hop]) (indexStr_says hu (hev hy) (hev hiy) h5)
    · cases htr
  | extract x ix =>
    rw [hop] at htr; simp only [trI] at htr
    split at htr
    · rename_i y hy
      obtain rfl := Option.some.inj htr
      obtain ⟨h5, rfl⟩ := withH_some h
      exact does_all hS (s := Instr.extract (a.eval x) ix) (by simp only [execOp, hop]) (extract_says (hev hy) h5)
    · cases htr
  | makeInterface t x =>
    rw [hop] at htr; simp only [trI, trIface] at htr
    split at htr
    · cases htr
    · rename_i d y hnot hu hy
      obtain rfl := Option.some.inj htr
      obtain ⟨rfl, rfl⟩ := Prod.mk.inj (Option.some.inj h)
      refine does_all hS (s := Instr.makeInterface t (a.eval x)) (by simp only [execOp, hop]) ⟨_, .iface t _ _ (hev hy), fun w' => ?_⟩
      simp only [Instr.makeInterface, Sem.run_bind, run_underlying hu, Result.andThen_ok]
      cases d with
      | interface ms => exact absurd rfl (hnot ms)
      | _ => rfl
    · cases htr
  | call c =>
    rw [hop] at htr; simp only [trI, trCall] at htr
    have hbi : ∀ (b : Builtin), c.callee = .builtin b → execOp a.eval o = builtin b c.argTypes o.type (c.args.map fun | .const _ => true | _ => false) (c.args.map a.eval) := by
      intro b hb
      simp only [execOp, hop, resolve, hb, pure_bind, invoke]
      rfl
    have hargs : c.args.map a.eval = (c.args.toList.map a.eval).toArray := by
      have : ∀ l : Array Operand, l.map a.eval = (l.toList.map a.eval).toArray := by
        intro l; obtain ⟨l⟩ := l; simp
      exact this _
    split at htr
    · rename_i g hc
      split at htr
      · rename_i f as h1 h2
        obtain rfl := Option.some.inj htr
        simp only [stepI] at h
        split at h
        · rename_i fn caps hfn
          exact does_call hX hgo hS hop hc hev h1 h2 hfn h
        · cases h
      · cases htr
    · rename_i hc
      simp only [trLen] at htr
      split at htr
      · rename_i t x h1 h2
        have hr := opds_rel hev h2
        have ht : c.argTypes = #[t] := Array.ext' h1
        split at htr
        · rename_i hu
          obtain rfl := Option.some.inj htr
          obtain ⟨h5, rfl⟩ := withH_some h
          cases hl : lenA true (x.ev X e) with
          | none => rw [hl] at h5; cases h5
          | some n =>
            rw [hl] at h5
            obtain rfl := Option.some.inj h5
            generalize hvs : c.args.toList.map a.eval = vs at hr hargs
            cases hr with
            | cons q1 q2 =>
              cases q2
              refine does_all hS (s := Builtin.len_ c.argTypes o.type (c.args.map a.eval)) (by rw [hbi _ hc]; rfl) ⟨_, .still _ _ (.int _ _), fun w' => ?_⟩
              rw [hargs, ht]
              exact lenStr_says hu q1 hl w'
        · rename_i el hu
          obtain rfl := Option.some.inj htr
          obtain ⟨h5, rfl⟩ := withH_some h
          cases hl : lenA false (x.ev X e) with
          | none => rw [hl] at h5; cases h5
          | some n =>
            rw [hl] at h5
            obtain rfl := Option.some.inj h5
            generalize hvs : c.args.toList.map a.eval = vs at hr hargs
            cases hr with
            | cons q1 q2 =>
              cases q2
              refine does_all hS (s := Builtin.len_ c.argTypes o.type (c.args.map a.eval)) (by rw [hbi _ hc]; rfl) ⟨_, .still _ _ (.int _ _), fun w' => ?_⟩
              rw [hargs, ht]
              exact lenSl_says hu q1 hl w'
        · cases htr
      · cases htr
    · rename_i hc
      simp only [trAppend] at htr
      split at htr
      · rename_i t t2 x y h1 h2
        have hr := opds_rel hev h2
        have ht : c.argTypes = #[t, t2] := Array.ext' h1
        split at htr
        · rename_i el hu
          split at htr
          · rename_i s b z e1 e2 e3
            split at htr
            · rename_i hcond
              obtain ⟨rfl, c2, c3, c4, c5⟩ := hcond
              obtain rfl := Option.some.inj htr
              simp only [stepI] at h
              split at h
              · rename_i d hd
                obtain ⟨i0, z0, hE⟩ := elT_of e1 e2 e3 c4 c5 c2 c3
                generalize hvs : c.args.toList.map a.eval = vs at hr hargs
                cases hr with
                | cons q1 q2 => cases q2 with
                  | cons q2 q3 =>
                    cases q3
                    obtain ⟨q, w', ι', p1, p2, p3, p4⟩ := append_says (ty := o.type) hu hE hS q1 q2 h
                    refine does_value (v := q) (w' := w') ?_ p2 p3 p4
                    rw [hbi _ hc]
                    simp only [builtin, hargs, ht, Sem.run_bind, p1, Result.andThen_ok, Sem.run_pure]
              · cases h
            · cases htr
          · cases htr
        · cases htr
      · cases htr
    · rename_i hc
      split at htr
      · rename_i xs h1
        obtain rfl := Option.some.inj htr
        obtain ⟨h5, rfl⟩ := withH_some h
        have hr := opds_rel hev h1
        generalize hvs : c.args.toList.map a.eval = vs at hr hargs
        generalize xs.map (·.ev X e) = ys at hr h5
        cases hr with
        | nil => cases h5
        | cons q1 q2 =>
          obtain ⟨z, hz, hrun⟩ := fold_says (P := P) max_says q1 q2 h5
          refine does_all hS (s := Builtin.max_ c.argTypes o.type (c.args.map a.eval)) (by rw [hbi _ hc]; rfl) ⟨z, hz, fun w' => ?_⟩
          rw [hargs]; exact hrun w'
      · cases htr
    · rename_i hc
      split at htr
      · rename_i xs h1
        obtain rfl := Option.some.inj htr
        obtain ⟨h5, rfl⟩ := withH_some h
        have hr := opds_rel hev h1
        generalize hvs : c.args.toList.map a.eval = vs at hr hargs
        generalize xs.map (·.ev X e) = ys at hr h5
        cases hr with
        | nil => cases h5
        | cons q1 q2 =>
          obtain ⟨z, hz, hrun⟩ := fold_says (P := P) min_says q1 q2 h5
          refine does_all hS (s := Builtin.min_ c.argTypes o.type (c.args.map a.eval)) (by rw [hbi _ hc]; rfl) ⟨z, hz, fun w' => ?_⟩
          rw [hargs]; exact hrun w'
      · cases htr
    · cases htr
  | _ => rw [hop] at htr; simp only [trI] at htr; cases htr

end Go.Den
