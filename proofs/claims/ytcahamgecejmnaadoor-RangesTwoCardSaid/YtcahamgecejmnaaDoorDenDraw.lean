/-
  Regions whose order is drawn: every order that may be drawn comes to what the order of the text comes to. Its conditions: drawOK.
-/
import Derived.Test.YtcahamgecejmnaaDoorDenOp
import Derived.Test.YtcahamgecejmnaaDoorDenTr
namespace Go.Den
open Go
open Go.RowKit (Below)

variable {P : Program} {X : Ctx} {F : Nat → Prop} {B : Nat} {ι : Pos} {H : Heap} {w : World} {N : Nat → Prop}

theorem rel_undef : Rel N ι H w .undef Go.undef := .still _ _ undef_vd

theorem getD_some {a : Array Value} {t : Nat} {b : Bool} (h : a.getD t undef = .bool b) : a[t]? = some (.bool b) := by
  rw [Array.getD_eq_getD_getElem?] at h
  cases h1 : a[t]? with
  | none => rw [h1] at h; cases h
  | some v => rw [h1] at h; exact congrArg some h

theorem wanted_says {e : Env} {a : Act} {ops : Array Oper} {o : Oper} (henv : ∀ t, Rel N ι H w (e t) (a.tmps.getD t undef)) {g : Option (Option Nat × Bool)}
    (hg : g = match o.guard with | none => none | some (j, b) => some ((ops[j]?).bind (·.dst), b)) {b : Bool} (h : wanted e g = some b) : Region.wanted o (yielded ops a.tmps) = b := by
  unfold Region.wanted
  cases hog : o.guard with
  | none =>
    rw [hog] at hg
    subst hg
    simp only [wanted, Option.some.injEq] at h
    exact h
  | some p =>
    obtain ⟨j, want⟩ := p
    rw [hog] at hg
    simp only at hg
    subst hg
    unfold yielded
    cases hd : (ops[j]?).bind (·.dst) with
    | none =>
      rw [hd] at h
      simp only [wanted, Option.some.injEq] at h
      subst h
      simp [hd]
    | some t =>
      rw [hd] at h
      simp only [wanted] at h
      have ht := henv t
      split at h
      · rename_i x hx
        rw [hx] at ht
        have := getD_some (rel_bool ht)
        simp only [hd, Option.bind_some, this]
        obtain rfl := Option.some.inj h
        rfl
      · rename_i vs hx
        obtain rfl := Option.some.inj h
        rw [hx] at ht
        obtain ⟨us, hu, _⟩ := rel_tup ht
        simp only [hd, Option.bind_some]
        rw [Array.getD_eq_getD_getElem?] at hu
        cases h1 : a.tmps[t]? with
        | none => rfl
        | some v =>
          rw [h1] at hu
          simp only [Option.getD_some] at hu
          subst hu
          rfl
      · cases h

theorem valueOf_some {o : Option (AV × Heap)} {v : AV} (h : valueOf o = some v) : ∃ H', o = some (v, H') := by
  cases o with
  | none => cases h
  | some p => obtain ⟨a, H'⟩ := p; obtain rfl := Option.some.inj h; exact ⟨H', rfl⟩

theorem valueOf_withH {H : Heap} {o : Option AV} {v : AV} (h : valueOf (withH H o) = some v) : withH H o = some (v, H) := by
  cases o with
  | none => cases h
  | some a => obtain rfl := Option.some.inj h; rfl

/-- What is quiet is what it is, and leaves the blocks alone. -/
theorem stepQ_stepI {go : Nat → List AV → Key → Heap → Option (AV × Heap)} {π : Key} {dst : Option Nat} {e : Env} {i : I} {v : AV} (hb : ∀ sz len zero parts, i ≠ .buildSlice sz len zero parts) (h : stepQ X go π dst e H i = some v) : stepI X go π dst e H i = some (v, H) := by
  cases i with
  | call f args =>
    simp only [stepQ] at h
    simp only [stepI]
    split at h
    · rename_i fn caps hf
      unfold callQ at h
      unfold callArgs
      split at h
      · cases h
      unfold callQ0 at h
      unfold callArgs0
      split at h
      · cases h
      · rename_i hs
        rw [if_neg hs]
        split at h
        · rename_i as has
          split at h
          · rename_i r hr
            split at h
            · rename_i hfl
              obtain rfl := Option.some.inj h
              by_cases hf : r.flat = true
              · rw [if_pos hf]
              · rw [if_neg hf]
                have hp : AV.pureL (args.map (·.ev X e) ++ caps) = true := by simpa [hf] using hfl
                rw [killL_pure H _ hp]
            · cases h
          · cases h
        · cases h
    · cases h
  | box _ _ => cases h
  | rng _ => cases h
  | next _ => cases h
  | mkmap => cases h
  | lookup _ _ _ _ _ => cases h
  | mapSet _ _ _ _ => cases h
  | buildSlice sz len zero parts => exact absurd rfl (hb sz len zero parts)
  | store _ _ _ => cases h
  | append _ _ _ _ => cases h
  | mov x => obtain rfl := Option.some.inj h; rfl
  | mkfn f caps => obtain rfl := Option.some.inj h; rfl
  | mkiface t x => obtain rfl := Option.some.inj h; rfl
  | no => cases h
  | build zero parts =>
    simp only [stepQ, stepI] at h ⊢
    split at h
    · rename_i hc
      rw [if_pos hc]
      exact valueOf_withH h
    · cases h
  | slice sz x lo hi mx =>
    simp only [stepQ, stepI] at h ⊢
    split at h
    · exact valueOf_withH h
    · split at h
      · rename_i hc
        rw [if_pos hc]
        exact valueOf_withH h
      · cases h
  | _ => exact valueOf_withH h

theorem ev_congr {e e' : Env} : ∀ {x : Opd}, (∀ t ∈ x.tmps, e t = e' t) → x.ev X e = x.ev X e'
  | .t n, h => h n (by simp [Opd.tmps])
  | .c _, _ => rfl
  | .g _, _ => rfl
theorem evs_congr {e e' : Env} {xs : List Opd} (h : ∀ t ∈ (xs.map Opd.tmps).flatten, e t = e' t) : xs.map (·.ev X e) = xs.map (·.ev X e') :=
  List.map_congr_left fun x hx => ev_congr fun t ht => h t (List.mem_flatten.2 ⟨_, List.mem_map.2 ⟨x, hx, rfl⟩, ht⟩)
theorem opt_congr {e e' : Env} {x : Option Opd} (h : ∀ t ∈ optTmps x, e t = e' t) : x.map (·.ev X e) = x.map (·.ev X e') := by
  cases x with
  | none => rfl
  | some x => exact congrArg some (ev_congr h)

theorem draw_fold {e e' : Env} {parts : List (Nat × Opd)} (hp : ∀ p ∈ parts, p.2.ev X e = p.2.ev X e') {l : List AV} : parts.foldl (fun (es : List AV) p => es.set p.1 (p.2.ev X e).norm) l = parts.foldl (fun (es : List AV) p => es.set p.1 (p.2.ev X e').norm) l := by
  induction parts generalizing l with
  | nil => rfl
  | cons p r ih => simp only [List.foldl_cons]; rw [hp p (List.mem_cons_self ..), ih (fun q hq => hp q (List.mem_cons_of_mem _ hq))]
theorem draw_all {e e' : Env} {parts : List (Nat × Opd)} (hp : ∀ p ∈ parts, p.2.ev X e = p.2.ev X e') {sz len : Nat} : (parts.all fun p => (p.2.ev X e).cells.length == sz && (p.2.ev X e).pure && (p.2.ev X e).solid && decide (p.1 < len)) = parts.all fun p => (p.2.ev X e').cells.length == sz && (p.2.ev X e').pure && (p.2.ev X e').solid && decide (p.1 < len) := by
  rw [Bool.eq_iff_iff]; simp only [List.all_eq_true]
  exact ⟨fun g p q => by rw [← hp p q]; exact g p q, fun g p q => by rw [hp p q]; exact g p q⟩

theorem stepI_congr {go : Nat → List AV → Key → Heap → Option (AV × Heap)} {π : Key} {dst : Option Nat} {e e' : Env} {i : I} (h : ∀ t ∈ i.tmps, e t = e' t) : stepI X go π dst e H i = stepI X go π dst e' H i := by
  cases i with
  | no => rfl
  | mkfn f caps => simp only [stepI]; rw [evs_congr h]
  | mx xs => simp only [stepI]; rw [evs_congr h]
  | mn xs => simp only [stepI]; rw [evs_congr h]
  | call f as =>
    simp only [stepI]
    rw [ev_congr (x := f) (fun t ht => h t (by simp only [I.tmps, List.mem_append]; exact .inl ht)), evs_congr (xs := as) (fun t ht => h t (by simp only [I.tmps, List.mem_append]; exact .inr ht))]
  | pick a b c =>
    simp only [stepI]
    rw [ev_congr (x := a) (fun t ht => h t (by simp only [I.tmps, List.mem_append]; exact .inl ht)), ev_congr (x := b) (fun t ht => h t (by simp only [I.tmps, List.mem_append]; exact .inr (.inl ht))),
      ev_congr (x := c) (fun t ht => h t (by simp only [I.tmps, List.mem_append]; exact .inr (.inr ht)))]
  | slstr x lo hi =>
    simp only [stepI]
    rw [ev_congr (x := x) (fun t ht => h t (by simp only [I.tmps, List.mem_append]; exact .inl ht)), opt_congr (x := lo) (fun t ht => h t (by simp only [I.tmps, List.mem_append]; exact .inr (.inl ht))),
      opt_congr (x := hi) (fun t ht => h t (by simp only [I.tmps, List.mem_append]; exact .inr (.inr ht)))]
  | slice sz x lo hi m =>
    simp only [stepI]
    rw [ev_congr (x := x) (fun t ht => h t (by simp only [I.tmps, List.mem_append]; exact .inl ht)), opt_congr (x := lo) (fun t ht => h t (by simp only [I.tmps, List.mem_append]; exact .inr (.inl ht))),
      opt_congr (x := hi) (fun t ht => h t (by simp only [I.tmps, List.mem_append]; exact .inr (.inr (.inl ht))))]
    cases m with
    | none => rfl
    | some m => simp only; rw [ev_congr (x := m) (fun t ht => h t (by simp only [I.tmps, List.mem_append]; exact .inr (.inr (.inr ht))))]
  | build zero parts =>
    have hp : ∀ p ∈ parts, p.2.2.ev X e = p.2.2.ev X e' := fun p hp => ev_congr fun t ht => h t (List.mem_flatten.2 ⟨_, List.mem_map.2 ⟨p, hp, rfl⟩, ht⟩)
    simp only [stepI]
    have h1 : (parts.map fun p => (p.1, (p.2.2.ev X e).cells)) = parts.map fun p => (p.1, (p.2.2.ev X e').cells) := List.map_congr_left fun p q => by rw [hp p q]
    have h2 : (parts.all fun p => (p.2.2.ev X e).cells.length == p.2.1 && (p.2.2.ev X e).solid) = parts.all fun p => (p.2.2.ev X e').cells.length == p.2.1 && (p.2.2.ev X e').solid := by
      rw [Bool.eq_iff_iff]; simp only [List.all_eq_true]
      exact ⟨fun g p q => by rw [← hp p q]; exact g p q, fun g p q => by rw [hp p q]; exact g p q⟩
    rw [h1, h2]
  | buildSlice sz len zero parts =>
    have hp : ∀ p ∈ parts, p.2.ev X e = p.2.ev X e' := fun p hp => ev_congr fun t ht => h t (List.mem_flatten.2 ⟨_, List.mem_map.2 ⟨p, hp, rfl⟩, ht⟩)
    simp only [stepI]
    rw [draw_fold hp, draw_all hp]
  | store sz x y | bin op x y | eqs k n x y | indexAddr sz x y | indexStr x y | append sz b x y =>
    simp only [stepI]
    rw [ev_congr (x := x) (fun t ht => h t (by simp only [I.tmps, List.mem_append]; exact .inl ht)), ev_congr (x := y) (fun t ht => h t (by simp only [I.tmps, List.mem_append]; exact .inr ht))]
  | mkmap => rfl
  | lookup q z ok m x =>
    simp only [stepI]
    rw [ev_congr (x := m) (fun t ht => h t (by simp only [I.tmps, List.mem_append]; exact .inl ht)), ev_congr (x := x) (fun t ht => h t (by simp only [I.tmps, List.mem_append]; exact .inr ht))]
  | mapSet q m x v =>
    simp only [stepI]
    rw [ev_congr (x := m) (fun t ht => h t (by simp only [I.tmps, List.mem_append]; exact .inl ht)), ev_congr (x := x) (fun t ht => h t (by simp only [I.tmps, List.mem_append]; exact .inr (.inl ht))), ev_congr (x := v) (fun t ht => h t (by simp only [I.tmps, List.mem_append]; exact .inr (.inr ht)))]
  | _ => simp only [stepI]; rw [ev_congr h]

theorem stepQ_congr {go : Nat → List AV → Key → Heap → Option (AV × Heap)} {π : Key} {dst : Option Nat} {e e' : Env} {i : I} (h : ∀ t ∈ i.tmps, e t = e' t) : stepQ X go π dst e H i = stepQ X go π dst e' H i := by
  cases i with
  | call f as =>
    simp only [stepQ]
    rw [ev_congr (x := f) (fun t ht => h t (by simp only [I.tmps, List.mem_append]; exact .inl ht)), evs_congr (xs := as) (fun t ht => h t (by simp only [I.tmps, List.mem_append]; exact .inr ht))]
  | box _ _ => rfl
  | buildSlice sz len zero parts =>
    have hp : ∀ p ∈ parts, p.2.ev X e = p.2.ev X e' := fun p hp => ev_congr fun t ht => h t (List.mem_flatten.2 ⟨_, List.mem_map.2 ⟨p, hp, rfl⟩, ht⟩)
    simp only [stepQ]
    rw [draw_fold hp, draw_all hp]
  | store _ _ _ => rfl
  | append _ _ _ _ => rfl
  | rng _ => rfl
  | next _ => rfl
  | mkmap => rfl
  | lookup _ _ _ _ _ => rfl
  | mapSet _ _ _ _ => rfl
  | no => rfl
  | _ => exact congrArg valueOf (stepI_congr (go := go) (π := π) (dst := dst) (H := H) h)

theorem wanted_congr {e e' : Env} {o : Ins} (h : ∀ t ∈ o.tmps, e t = e' t) : wanted e o.guard = wanted e' o.guard := by
  cases hg : o.guard with
  | none => rfl
  | some p =>
    obtain ⟨t, b⟩ := p
    cases t with
    | none => rfl
    | some t => simp only [wanted]; rw [h t (by simp [Ins.tmps, hg])]

/-- A quiet operation does what is read; a slice that it makes is only read from then on. -/
theorem stepQ_does (hX : CtxOK P X) {go : Nat → List AV → Key → Heap → Option (AV × Heap)} (hgo : GoSound P X go) (hS : SR X F B ι H w) {o : Oper} {a : Act} {e : Env} {i : I}
    (hev : ∀ {o : Operand} {x : Opd}, trOpd o = some x → Rel (bad F ι H) ι H w (x.ev X e) (a.eval o)) (htr : trI P o.op = some i) {π : Key} {r : AV} (h : stepQ X go π o.dst e H i = some r) : Does P X F B ι H w o a r H := by
  by_cases hb : ∀ sz len zero parts, i ≠ .buildSlice sz len zero parts
  · exact op_does hX hgo hS hev htr (stepQ_stepI hb h)
  · have : ∃ sz len zero parts, i = .buildSlice sz len zero parts := by
      cases i with
      | buildSlice sz len zero parts => exact ⟨sz, len, zero, parts, rfl⟩
      | _ => exact absurd (fun _ _ _ _ e => nomatch e) hb
    obtain ⟨sz, len, zero, parts, rfl⟩ := this
    simp only [stepQ] at h
    split at h
    · rename_i hc
      obtain ⟨hd, hall⟩ := hc
      obtain rfl := Option.some.inj h
      obtain ⟨d, hd⟩ := Option.isSome_iff_exists.1 hd
      let e' : Env := fun t => if (e t).pure = true then e t else .junk
      have hp : ∀ p ∈ parts, p.2.ev X e = p.2.ev X e' := by
        intro p hp
        rw [List.all_eq_true] at hall
        have := hall p hp
        simp only [Bool.and_eq_true] at this
        cases hx : p.2 with
        | t n =>
          rw [hx] at this
          show e n = if (e n).pure = true then e n else .junk
          have hn : (e n).pure = true := this.1.1.2
          rw [if_pos hn]
        | c v => rfl
        | g n => rfl
      have hcal := hS.callee
      have hev' : ∀ {o : Operand} {x : Opd}, trOpd o = some x → Rel (bad (bad F ι H) ι Heap.none) ι Heap.none w (x.ev X e') (a.eval o) := by
        intro o x hox
        have h0 := hev hox
        unfold trOpd at hox
        split at hox
        · rename_i t
          obtain rfl := Option.some.inj hox
          show Rel _ _ _ _ (if (e t).pure = true then e t else .junk) _
          split
          · rename_i hpure; exact .still _ _ ((rel_pure h0 hpure).mono (fun b _ hn => ⟨fun e => hn (bad_none.1 e), rfl⟩))
          · exact .junk _
        · split at hox
          · rename_i hc
            obtain rfl := Option.some.inj hox
            exact .still _ _ (constA_vd hc)
          · cases hox
        · rename_i g
          obtain rfl := Option.some.inj hox
          simp only [Opd.ev]
          cases hg : X.glob g with
          | none => exact .junk _
          | some v => exact .still _ _ (hcal.glob g v hg)
        · rename_i f
          obtain rfl := Option.some.inj hox
          exact .still _ _ (VD.fn f [] [] rfl (fun i c v h => by cases h))
      have hst : stepI X go π o.dst e' Heap.none (.buildSlice sz len zero parts) = some (.own (d :: π) 1 0 len, fresh Heap.none (d :: π) ⟨false, true, sz, parts.foldl (fun es p => es.set p.1 (p.2.ev X e).norm) (List.replicate len zero)⟩) := by
        simp only [stepI, hd]
        rw [draw_fold (fun p q => (hp p q).symm), draw_all (fun p q => (hp p q).symm), if_pos hall]
        rfl
      intro K Q hK
      refine op_does hX hgo hcal hev' htr hst K Q (fun v w' ι' q1 q2 q3 => ?_)
      have hb' := adv_below q2 (fun _ => rfl)
      refine hK v w' ι (hS.below hb') (below_adv hb') (.still _ _ ?_)
      have hlen : ∀ (ps : List (Nat × Opd)) (l : List AV), (ps.foldl (fun es p => es.set p.1 (p.2.ev X e).norm) l).length = l.length := by
        intro ps
        induction ps with
        | nil => intro l; rfl
        | cons p r ih => intro l; rw [List.foldl_cons, ih, List.length_set]
      have hsnap : snap (fresh Heap.none (d :: π) ⟨false, true, sz, parts.foldl (fun es p => es.set p.1 (p.2.ev X e).norm) (List.replicate len zero)⟩) (.own (d :: π) 1 0 len) = some (.sl (parts.foldl (fun es p => es.set p.1 (p.2.ev X e).norm) (List.replicate len zero))) := by
        have hl : (fresh Heap.none (d :: π) ⟨false, true, sz, parts.foldl (fun es p => es.set p.1 (p.2.ev X e).norm) (List.replicate len zero)⟩).live (d :: π) 1 = some ⟨false, true, sz, parts.foldl (fun es p => es.set p.1 (p.2.ev X e).norm) (List.replicate len zero)⟩ := by
          simp [fresh, Heap.live, Heap.set, Heap.none]
        simp only [snap, frozen1, hl, if_true, List.drop_zero]
        rw [List.take_of_length_le (by rw [hlen]; simp)]
      have hlive := snap_own (H := fresh Heap.none (d :: π) ⟨false, true, sz, parts.foldl (fun es p => es.set p.1 (p.2.ev X e).norm) (List.replicate len zero)⟩) _ _ hsnap
      exact (snap_vd q1 (kill_less _ _) _ _ v hsnap (kill_frz _ _ hlive) q3).mono (fun b _ hn => ⟨fun e => hn (.inl (by
        rcases e with e | ⟨k, hk, e⟩
        · exact .inl e
        · exact .inr ⟨k, hk, e⟩)), rfl⟩)
    · cases h

/-- What there is when some have come up: their values. -/
def mix (l : List Ins) (vs : List AV) (L : Nat → Bool) (e0 : Env) : Env := fun t => match l.findIdx? (fun o => o.dst == some t) with
  | some j => if L j then vs.getD j .undef else e0 t
  | none => e0 t

def Apart (l : List Ins) : Prop := ∀ (i j : Nat) (oi oj : Ins) (d : Nat), l[i]? = some oi → l[j]? = some oj → oi.dst = some d → oj.dst = some d → i = j

theorem findIdx_of {l : List Ins} (hl : Apart l) {i : Nat} {o : Ins} {t : Nat} (hi : l[i]? = some o) (hd : o.dst = some t) : l.findIdx? (fun o => o.dst == some t) = some i := by
  cases h : l.findIdx? (fun o => o.dst == some t) with
  | none =>
    rw [List.findIdx?_eq_none_iff] at h
    have := h o (List.mem_of_getElem? hi)
    simp [hd] at this
  | some j =>
    rw [List.findIdx?_eq_some_iff_getElem] at h
    obtain ⟨hj, h1, _⟩ := h
    have := hl i j o l[j] t hi (List.getElem?_eq_getElem hj) hd (by simpa using h1)
    rw [this]

theorem findIdx_some {l : List Ins} {t j : Nat} (h : l.findIdx? (fun o => o.dst == some t) = some j) : ∃ o, l[j]? = some o ∧ o.dst = some t := by
  rw [List.findIdx?_eq_some_iff_getElem] at h
  obtain ⟨hj, h1, _⟩ := h
  exact ⟨l[j], List.getElem?_eq_getElem hj, by simpa using h1⟩

theorem mix_put {l : List Ins} (hl : Apart l) {vs : List AV} {L : Nat → Bool} {e0 : Env} {i : Nat} {o : Ins} (hi : l[i]? = some o) (v : AV) (hv : vs.getD i .undef = v) :
    (mix l vs L e0).put o.dst v = mix l vs (fun j => j == i || L j) e0 := by
  funext t
  cases hd : o.dst with
  | none =>
    simp only [Env.put, mix]
    split
    · rename_i j hj
      obtain ⟨oj, h1, h2⟩ := findIdx_some hj
      have : (j == i) = false := by
        rw [beq_eq_false_iff_ne]
        rintro rfl
        obtain rfl := Option.some.inj (hi.symm.trans h1)
        rw [hd] at h2; cases h2
      simp [this]
    · rfl
  | some d =>
    simp only [Env.put, Env.set]
    by_cases ht : t = d
    · subst ht
      rw [if_pos rfl]
      simp only [mix, findIdx_of hl hi hd, beq_self_eq_true, Bool.true_or, if_true, hv]
    · rw [if_neg ht]
      simp only [mix]
      split
      · rename_i j hj
        obtain ⟨oj, h1, h2⟩ := findIdx_some hj
        have : (j == i) = false := by
          rw [beq_eq_false_iff_ne]
          rintro rfl
          obtain rfl := Option.some.inj (hi.symm.trans h1)
          rw [hd] at h2; exact ht (Option.some.inj h2).symm
        simp [this]
      · rfl

/-- What each operation comes to, in the order of the text. -/
def Comes (X : Ctx) (go : Nat → List AV → Key → Heap → Option (AV × Heap)) (π : Key) (H : Heap) (e : Env) (o : Ins) (v : AV) : Prop :=
  ∃ b, wanted e o.guard = some b ∧ (b = true → stepQ X go π o.dst e H o.op = some v) ∧ (b = false → v = .undef)

theorem Comes.congr {go : Nat → List AV → Key → Heap → Option (AV × Heap)} {π : Key} {e e' : Env} {o : Ins} {v : AV} (h : Comes X go π H e o v) (he : ∀ t ∈ o.tmps, e t = e' t) : Comes X go π H e' o v := by
  obtain ⟨b, h1, h2, h3⟩ := h
  refine ⟨b, (wanted_congr he).symm.trans h1, fun hb => ?_, h3⟩
  rw [← stepQ_congr (e := e) (fun t ht => he t (by simp only [Ins.tmps, List.mem_append]; exact .inr ht))]
  exact h2 hb

theorem runQ_vals {go : Nat → List AV → Key → Heap → Option (AV × Heap)} {π : Key} {l : List Ins} (hl : Apart l) {e0 : Env} :
    ∀ (r : List Ins) (k : Nat) (vs : List AV) (e1 : Env), l.drop k = r → vs.length = k → runQ X go π H r (mix l vs (fun j => decide (j < k)) e0) = some e1 →
      ∃ us : List AV, us.length = k + r.length ∧ us.take k = vs ∧ e1 = mix l us (fun j => decide (j < l.length)) e0 ∧ ∀ (i : Nat) (o : Ins), k ≤ i → l[i]? = some o → Comes X go π H (mix l us (fun j => decide (j < i)) e0) o (us.getD i .undef)
  | [], k, vs, e1, hd, hvs, h => by
    obtain rfl := Option.some.inj h
    have hk : l.length ≤ k := List.drop_eq_nil_iff.1 hd
    refine ⟨vs, by simp [hvs], by rw [← hvs, List.take_length], ?_, fun i o hi ho => ?_⟩
    · funext t
      simp only [mix]
      split
      · rename_i j hj
        obtain ⟨o, ho, _⟩ := findIdx_some hj
        have := (List.getElem?_eq_some_iff.1 ho).1
        rw [if_pos (by simp; omega), if_pos (by simpa using this)]
      · rfl
    · have := (List.getElem?_eq_some_iff.1 ho).1
      omega
  | o :: r, k, vs, e1, hd, hvs, h => by
    have hk : l[k]? = some o := by
      have := congrArg (·[0]?) hd
      simpa [List.getElem?_drop] using this
    have hd' : l.drop (k + 1) = r := by
      have := congrArg (·.drop 1) hd
      simpa [List.drop_drop, Nat.add_comm] using this
    have ext : ∀ (v : AV) (L : Nat → Bool), L k = false → (∀ j, k < j → L j = false) → mix l (vs ++ [v]) L e0 = mix l vs L e0 := by
      intro v L h1 h2
      funext t
      simp only [mix]
      split
      · rename_i j hj
        by_cases hjk : j < k
        · simp [List.getD_eq_getElem?_getD, List.getElem?_append_left (hvs ▸ hjk)]
        · have : L j = false := by
            rcases Nat.lt_or_eq_of_le (Nat.le_of_not_lt hjk) with h3 | h3
            · exact h2 j h3
            · exact h3 ▸ h1
          simp [this]
      · rfl
    have next : ∀ v, (mix l vs (fun j => decide (j < k)) e0).put o.dst v = mix l (vs ++ [v]) (fun j => decide (j < k + 1)) e0 := by
      intro v
      rw [← ext v (fun j => decide (j < k)) (by simp) (fun j hj => by simp; omega), mix_put hl hk v (by simp [List.getD_eq_getElem?_getD, hvs])]
      congr 1
      funext j
      rw [Bool.eq_iff_iff]
      simp only [Bool.or_eq_true, beq_iff_eq, decide_eq_true_eq]
      omega
    have fin : ∀ v, Comes X go π H (mix l vs (fun j => decide (j < k)) e0) o v → runQ X go π H r (mix l (vs ++ [v]) (fun j => decide (j < k + 1)) e0) = some e1 →
        ∃ us : List AV, us.length = k + (o :: r).length ∧ us.take k = vs ∧ e1 = mix l us (fun j => decide (j < l.length)) e0 ∧ ∀ (i : Nat) (o' : Ins), k ≤ i → l[i]? = some o' → Comes X go π H (mix l us (fun j => decide (j < i)) e0) o' (us.getD i .undef) := by
      intro v hc hr
      obtain ⟨us, h1, h2, h3, h4⟩ := runQ_vals hl r (k + 1) (vs ++ [v]) e1 hd' (by simp [hvs]) hr
      have hus : us.take k = vs := by
        have := congrArg (·.take k) h2
        simp only [List.take_take] at this
        rw [Nat.min_eq_left (Nat.le_succ k), List.take_append_of_le_length (Nat.le_of_eq hvs.symm), ← hvs, List.take_length] at this
        rw [← hvs]; exact this
      refine ⟨us, by simp [h1]; omega, hus, h3, fun i o' hi ho' => ?_⟩
      rcases Nat.lt_or_eq_of_le hi with hlt | rfl
      · exact h4 i o' hlt ho'
      · obtain rfl := Option.some.inj (hk.symm.trans ho')
        have hv : us.getD k .undef = v := by
          have := congrArg (·[k]?) h2
          simp only [List.getElem?_take, Nat.lt_succ_self, if_true] at this
          rw [List.getD_eq_getElem?_getD, this]
          simp [← hvs]
        rw [hv]
        refine hc.congr fun t _ => ?_
        simp only [mix]
        split
        · rename_i j hj
          split
          · rename_i hjk
            have hjk : j < k := by simpa using hjk
            rw [← hus]
            simp [List.getD_eq_getElem?_getD, hjk]
          · rfl
        · rfl
    simp only [runQ] at h
    split at h
    · rename_i hw
      split at h
      · rename_i v hst
        rw [next v] at h
        exact fin v ⟨true, hw, fun _ => hst, fun e => by cases e⟩ h
      · cases h
    · rename_i hw
      rw [next .undef] at h
      exact fin .undef ⟨false, hw, fun e => (by cases e), fun _ => rfl⟩ h
    · cases h

structure DrawFacts (l : List Ins) (after : Nat → List Nat) : Prop where
  apart : Apart l
  back : ∀ i, i < l.length → ∀ j ∈ after i, j < i
  looks : ∀ (i j : Nat) (oi oj : Ins) (d : Nat), l[i]? = some oi → l[j]? = some oj → i ≠ j → oj.dst = some d → d ∈ oi.tmps → (j < i ∧ j ∈ after i) ∨ (i < j ∧ i ∈ after j)

theorem drawOK_facts {l : List Ins} {after : Nat → List Nat} (h : drawOK l after = true) : DrawFacts l after := by
  unfold drawOK at h
  rw [List.all_eq_true] at h
  have key : ∀ i oi, l[i]? = some oi → (∀ j ∈ after i, j < i) ∧ ∀ j oj d, l[j]? = some oj → oj.dst = some d → i = j ∨ (oi.dst ≠ some d ∧ (d ∈ oi.tmps → (j < i ∧ j ∈ after i) ∨ (i < j ∧ i ∈ after j))) := by
    intro i oi hi
    have hlt := (List.getElem?_eq_some_iff.1 hi).1
    have h1 := h i (List.mem_range.2 hlt)
    rw [hi] at h1
    simp only [Bool.and_eq_true, List.all_eq_true] at h1
    refine ⟨fun j hj => by simpa using h1.1 j hj, fun j oj d hj hd => ?_⟩
    have hjl := (List.getElem?_eq_some_iff.1 hj).1
    have h2 := h1.2 j (List.mem_range.2 hjl)
    rw [hj] at h2
    simp only [Option.bind_some, hd, Bool.or_eq_true, beq_iff_eq, Bool.and_eq_true, bne_iff_ne, ne_eq, Bool.not_eq_true', List.contains_eq_mem, decide_eq_true_eq, decide_eq_false_iff_not] at h2
    rcases h2 with h2 | ⟨h2, h3⟩
    · exact .inl h2
    · refine .inr ⟨h2, fun hm => ?_⟩
      rcases h3 with (h3 | h3) | h3
      · exact absurd hm h3
      · exact .inl h3
      · exact .inr h3
  refine ⟨fun i j oi oj d hi hj hdi hdj => ?_, fun i hi j hj => ?_, fun i j oi oj d hi hj hne hd hm => ?_⟩
  · rcases (key i oi hi).2 j oj d hj hdj with h1 | h1
    · exact h1
    · exact absurd hdi h1.1
  · exact (key i l[i] (List.getElem?_eq_getElem hi)).1 j hj
  · rcases (key i oi hi).2 j oj d hj hd with h1 | h1
    · exact absurd h1 hne
    · exact h1.2 hm

theorem trOps_get {nt : Nat} {ops : Array Oper} : ∀ {os : List Oper} {l : List Ins}, trOps P nt ops os = some l → os.length = l.length ∧ ∀ (i : Nat) (o : Oper), os[i]? = some o → ∃ n : Ins, l[i]? = some n ∧ trOp P nt ops o = some n
  | [], l, h => by
    obtain rfl := Option.some.inj h
    exact ⟨rfl, fun i o hi => by simp at hi⟩
  | o :: os, l, h => by
    simp only [trOps] at h
    split at h
    · rename_i n ns h1 h2
      obtain rfl := Option.some.inj h
      obtain ⟨hl, hg⟩ := trOps_get h2
      refine ⟨by simp [hl], fun i o' hi => ?_⟩
      cases i with
      | zero =>
        simp at hi
        subst hi
        exact ⟨n, by simp, h1⟩
      | succ i => simpa using hg i o' (by simpa using hi)
    · cases h

theorem trOp_parts {nt : Nat} {ops : Array Oper} {o : Oper} {n : Ins} (h : trOp P nt ops o = some n) : n.op = (trI P o.op).getD .no ∧ n.dst = o.dst ∧
    n.guard = (match o.guard with | none => none | some (j, b) => some ((ops[j]?).bind (·.dst), b)) ∧ ∀ d, o.dst = some d → d < nt := by
  unfold trOp at h
  split at h
  · rename_i hd
    obtain rfl := Option.some.inj h
    refine ⟨rfl, rfl, rfl, fun d e => ?_⟩
    rw [e] at hd
    simpa [dstOK] using hd
  · cases h

theorem range_split {i n : Nat} (h : i < n) : List.range n = List.range i ++ i :: List.range' (i + 1) (n - (i + 1)) := by
  rw [List.range_eq_range', List.range_eq_range', ← List.range'_succ]
  have := List.range'_append (s := 0) (m := i) (n := n - (i + 1) + 1) (step := 1)
  simp only [Nat.zero_add, Nat.one_mul] at this
  rw [this]
  congr 1
  omega

/-- **Whatever order is drawn.** -/
theorem draw_says (hX : CtxOK P X) {go : Nat → List AV → Key → Heap → Option (AV × Heap)} (hgo : GoSound P X go) {π : Key} {nt : Nat} {ops : Array Oper} {Q : Exit → Act → World → Prop} {l : List Ins}
    (hl : trOps P nt ops ops.toList = some l) (hD : drawOK l (binding ops) = true) {e0 e1 : Env} {H : Heap} (hrun : runQ X go π H l e0 = some e1) {a : Act} {w : World} (hS : SR X F B ι H w) (hF : FR F ι H w e0 a nt)
    (hQ : ∀ a' w' ι', SR X F B ι' H w' → Adv ι H w ι' H w' → FR F ι' H w' e1 a' nt → Q .normal a' w') :
    wpAny P .any ops Q ops.size (Array.replicate ops.size false) a w := by
  have hfacts := drawOK_facts hD
  obtain ⟨hlen, hget⟩ := trOps_get hl
  have h0 : mix l [] (fun j => decide (j < 0)) e0 = e0 := by
    funext t; simp only [mix]; split <;> simp
  obtain ⟨us, hus, _, he1, hcomes⟩ := runQ_vals hfacts.apart (X := X) (go := go) (π := π) (H := H) (e0 := e0) l 0 [] e1 (by simp) rfl (by rw [h0]; exact hrun)
  have hsz : ops.size = l.length := by simpa using hlen
  have main : ∀ (fuel : Nat) (listed : Array Bool) (ι : Pos) (a : Act) (w : World), listed.size = ops.size →
      (∀ i, listed.getD i true = true → i < ops.size → ∀ j ∈ binding ops i, listed.getD j false = true) →
      (List.range ops.size).countP (fun i => !listed.getD i true) ≤ fuel →
      SR X F B ι H w → FR F ι H w (mix l us (fun j => listed.getD j false) e0) a nt →
      (∀ a' w' ι', SR X F B ι' H w' → Adv ι H w ι' H w' → FR F ι' H w' e1 a' nt → Q .normal a' w') → wpAny P .any ops Q fuel listed a w := by
    intro fuel
    -- when none may come up, all have
    have done : ∀ (listed : Array Bool), listed.size = ops.size → Region.ready .any ops listed = [] → ∀ i, i < ops.size → listed.getD i false = true := by
      intro listed hsize hr i
      induction i using Nat.strongRecOn with
      | ind i ih =>
        intro hi
        have hi' : i < listed.size := hsize ▸ hi
        cases hli : listed.getD i false with
        | true => rfl
        | false =>
          exfalso
          have hmem : i ∈ Region.ready .any ops listed := by
            rw [mem_ready]
            refine ⟨by simpa [hi'] using hli, ops[i], Array.getElem?_eq_getElem hi, fun e he hb => ?_⟩
            have hon : e.on ∈ binding ops i := by
              simp only [binding, Array.getElem?_eq_getElem hi]
              exact List.mem_map.2 ⟨e, List.mem_filter.2 ⟨by simpa using he, hb⟩, rfl⟩
            have hlt := hfacts.back i (hsz ▸ hi) e.on hon
            exact ih e.on hlt (Nat.lt_trans hlt hi)
          rw [hr] at hmem; cases hmem
    have final : ∀ (listed : Array Bool), listed.size = ops.size → Region.ready .any ops listed = [] → mix l us (fun j => listed.getD j false) e0 = e1 := by
      intro listed hsize hr
      rw [he1]
      funext t
      simp only [mix]
      split
      · rename_i j hj
        obtain ⟨o, ho, _⟩ := findIdx_some hj
        have hjl := (List.getElem?_eq_some_iff.1 ho).1
        rw [if_pos (show (fun j => listed.getD j false) j = true from done listed hsize hr j (hsz ▸ hjl)), if_pos (by simpa using hjl)]
      · rfl
    induction fuel with
    | zero =>
      intro listed ι a w hsize hclosed hcount hS hF hQ
      have hr : Region.ready .any ops listed = [] := by
        rw [List.eq_nil_iff_forall_not_mem]
        intro i hi
        rw [mem_ready] at hi
        obtain ⟨h1, o, ho, _⟩ := hi
        have hlt := (Array.getElem?_eq_some_iff.1 ho).1
        have : 0 < (List.range ops.size).countP (fun i => !listed.getD i true) := List.countP_pos_iff.2 ⟨i, List.mem_range.2 hlt, by rw [h1]; rfl⟩
        omega
      exact ⟨hr, hQ a w ι hS (.refl _ _ _) (final listed hsize hr ▸ hF)⟩
    | succ fuel ih =>
      intro listed ι a w hsize hclosed hcount hS hF hQ
      refine ⟨fun hr => hQ a w ι hS (.refl _ _ _) (final listed hsize hr ▸ hF), fun i hi => ?_⟩
      rw [mem_ready] at hi
      obtain ⟨hun, o, ho, hall⟩ := hi
      have hlt := (Array.getElem?_eq_some_iff.1 ho).1
      have hlt' : i < listed.size := hsize ▸ hlt
      have hunf : listed.getD i false = false := by simpa [hlt'] using hun
      obtain ⟨n, hn, htr⟩ := hget i o (by simpa using ho)
      obtain ⟨hti, hdst, hguard, hd⟩ := trOp_parts htr
      -- what it looks at is what it looked at in the order of the text
      have hlook : ∀ t ∈ n.tmps, mix l us (fun j => decide (j < i)) e0 t = mix l us (fun j => listed.getD j false) e0 t := by
        intro t ht
        simp only [mix]
        split
        · rename_i j hj
          obtain ⟨oj, hoj, hdj⟩ := findIdx_some hj
          by_cases hij : i = j
          · subst hij
            rw [if_neg (by simp), if_neg (show ¬ (fun j => listed.getD j false) i = true by show ¬ listed.getD i false = true; rw [hunf]; decide)]
          · rcases hfacts.looks i j n oj t hn hoj hij hdj ht with ⟨h1, h2⟩ | ⟨h1, h2⟩
            · have : listed.getD j false = true := by
                simp only [binding, ho, List.mem_map, List.mem_filter] at h2
                obtain ⟨e, ⟨he, hb⟩, rfl⟩ := h2
                exact hall e (by simpa using he) hb
              rw [if_pos (by simpa using h1), if_pos (show (fun j => listed.getD j false) j = true from this)]
            · have : listed.getD j false = false := by
                cases hlj : listed.getD j false with
                | false => rfl
                | true =>
                  have hjl : j < ops.size := hsz ▸ (List.getElem?_eq_some_iff.1 hoj).1
                  have := hclosed j (by have := hsize ▸ hjl; simpa [this] using hlj) hjl i h2
                  rw [this] at hunf; cases hunf
              rw [if_neg (by simp; omega), if_neg (show ¬ (fun j => listed.getD j false) j = true by show ¬ listed.getD j false = true; rw [this]; decide)]
        · rfl
      obtain ⟨b, hb, h1, h2⟩ := (hcomes i n (Nat.zero_le _) hn).congr hlook
      have hnext : ∀ ι' a' w' u, SR X F B ι' H w' → Adv ι H w ι' H w' → Rel (bad F ι' H) ι' H w' (us.getD i .undef) u → a' = a.put o.dst u → wpAny P .any ops Q fuel (listed.setIfInBounds i true) a' w' := by
        rintro ι' a' w' u hS' hA hr rfl
        refine ih (listed.setIfInBounds i true) ι' _ w' (by simpa using hsize) ?_ ?_ hS' ?_ (fun a'' w'' ι'' p1 p2 p3 => hQ a'' w'' ι'' p1 (hA.trans p2) p3)
        · intro j hj hjl k hk
          by_cases hij : j = i
          · subst hij
            simp only [binding, ho, List.mem_map, List.mem_filter] at hk
            obtain ⟨e, ⟨he, hb⟩, rfl⟩ := hk
            exact getD_set_true (hall e (by simpa using he) hb)
          · rw [getD_set_ne true (Ne.symm hij)] at hj
            exact getD_set_true (hclosed j hj hjl k hk)
        · have hc : (List.range ops.size).countP (fun j => !(listed.setIfInBounds i true).getD j true) < (List.range ops.size).countP (fun j => !listed.getD j true) := by
            rw [range_split hlt, List.countP_append, List.countP_append, List.countP_cons, List.countP_cons]
            have e1 : ∀ m : List Nat, i ∉ m → m.countP (fun j => !(listed.setIfInBounds i true).getD j true) = m.countP (fun j => !listed.getD j true) := by
              intro m hm
              refine List.countP_congr fun j hj => ?_
              rw [getD_set_ne (i := i) (j := j) true (by rintro rfl; exact hm hj)]
            rw [e1 (List.range i) (by simp), e1 (List.range' (i + 1) (ops.size - (i + 1))) (by rw [List.mem_range'_1]; omega), hun]
            simp [hlt']
          omega
        · have := (hF.adv hA).put hd hr
          rw [← hdst] at this
          rw [mix_put hfacts.apart hn _ rfl] at this
          rw [← hdst]
          refine cast (congrArg (fun e => FR F ι' H w' e (a.put n.dst u) nt) ?_) this
          congr 1
          funext j
          by_cases hij : j = i
          · subst hij; simp [hlt']
          · rw [getD_set_ne false (Ne.symm hij)]
            simp [hij]
      unfold wpOp
      simp only [ho]
      rw [wanted_says hF.env hguard hb]
      cases b with
      | true =>
        simp only [if_true]
        refine .inl ?_
        have hst := h1 rfl
        rw [hdst] at hst
        obtain ⟨i0, hti, hst⟩ : ∃ i0, trI P o.op = some i0 ∧ stepQ X go π o.dst (mix l us (fun j => listed.getD j false) e0) H i0 = some (us.getD i .undef) := by
          cases hi : trI P o.op with
          | none => rw [hti, hi] at hst; cases hst
          | some i0 => rw [hti, hi] at hst; exact ⟨i0, rfl, hst⟩
        exact stepQ_does hX hgo hS (fun h => opd_rel hS hF h) hti hst _ _ (fun u w' ι' q1 q2 q3 => hnext ι' _ w' u q1 q2 q3 rfl)
      | false =>
        simp only [Bool.false_eq_true, if_false]
        exact hnext ι _ w undef hS (.refl _ _ _) (by rw [h2 rfl]; exact rel_undef) rfl
  refine main ops.size _ ι a w (by simp) ?_ ?_ hS ?_ hQ
  · intro i hi hlt
    simp [hlt] at hi
  · exact Nat.le_trans List.countP_le_length (by simp)
  · have : mix l us (fun j => (Array.replicate ops.size false).getD j false) e0 = e0 := by
      funext t
      simp only [mix]
      split
      · rename_i j hj
        have : (Array.replicate ops.size false).getD j false = false := by
          by_cases hj : j < ops.size
          · simp [hj]
          · simp [Array.getD, hj]
        rw [if_neg (show ¬ (fun j => (Array.replicate ops.size false).getD j false) j = true by show ¬ (Array.replicate ops.size false).getD j false = true; rw [this]; decide)]
      · rfl
    rw [this]; exact hF

end Go.Den
