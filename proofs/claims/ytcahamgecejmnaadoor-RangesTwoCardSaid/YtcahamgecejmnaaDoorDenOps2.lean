/-
  Operations that leave memory alone, further ones. Its conditions: none.
-/
import Derived.Test.YtcahamgecejmnaaDoorDenOps
namespace Go.Den
open Go

variable {P : Program} {X : Ctx} {F : Nat → Prop} {B : Nat} {ι : Pos} {H : Heap} {w : World} {N : Nat → Prop}

theorem size_mk (s : List UInt8) : (⟨s.toArray⟩ : ByteArray).size = s.length := by simp [ByteArray.size]

theorem indexStr_says {t : TypeId} (hu : P.underlying t = some .string) {x i r : AV} {v u : Value} (hx : Rel N ι H w x v) (hi : Rel N ι H w i u)
    (h : indexStrA x i = some r) : ∃ y, Rel N ι H w r y ∧ ∀ w', (Instr.index t v u).run P w' = .ok y w' := by
  unfold indexStrA at h
  split at h
  · rename_i n hn
    obtain ⟨k, rfl⟩ := nat?_some hn
    obtain rfl := rel_int hi
    cases x with
    | str s =>
      simp only at h
      split at h
      · rename_i b hb
        obtain rfl := Option.some.inj h
        obtain rfl := rel_str hx
        refine ⟨_, .still _ _ (.int _ _), fun w' => ?_⟩
        have hlt : n < s.length := (List.getElem?_eq_some_iff.1 hb).1
        have e1 : (if (0 : Int) ≤ (n : Int) then (⟨s.toArray⟩ : ByteArray)[(n : Int).toNat]? else none) = some b := by
          rw [if_pos (by omega), Int.toNat_natCast]
          have hlt' : n < (⟨s.toArray⟩ : ByteArray).size := by rw [size_mk]; exact hlt
          rw [getElem?_pos (⟨s.toArray⟩ : ByteArray) n hlt']
          have := (List.getElem?_eq_some_iff.1 hb).2
          rw [← this]; rfl
        simp only [Instr.index, asIntOf, Sem.run_bind, Sem.run_pure, Result.andThen_ok, run_underlying hu, e1]
      · cases h
    | _ => cases h
  · cases h

/-- The bounds of a cut. -/
theorem run_sliceBounds {lo hi : Option AV} {lo' hi' : Option Value} {n l h : Nat} (isSlice : Bool) (cap : Nat) (hc : n ≤ cap)
    (h1 : match lo, lo' with | some x, some v => Rel N ι H w x v | none, none => True | _, _ => False)
    (h2 : match hi, hi' with | some x, some v => Rel N ι H w x v | none, none => True | _, _ => False)
    (hb : slBounds n lo hi = some (l, h)) : l ≤ h ∧ h ≤ n ∧ ∀ w', (Instr.sliceBounds isSlice n cap lo' hi' none).run P w' = .ok (l, h, cap) w' := by
  unfold slBounds at hb
  split at hb
  · rename_i h0 e1
    split at hb
    · rename_i l0 e2
      split at hb
      · rename_i hle
        obtain ⟨rfl, rfl⟩ := Prod.mk.inj (Option.some.inj hb)
        refine ⟨hle.1, hle.2, fun w' => ?_⟩
        have bound : ∀ (k : IntKind) (m y : Nat) (code : BoundsCode), m ≤ y → (Instr.sliceBound (.int k (m : Int)) y code).run P w' = .ok m w' := by
          intro k m y code hm
          have : (0 : Int) ≤ (m : Int) ∧ (m : Int) ≤ (y : Int) := by omega
          simp only [Instr.sliceBound, asIntOf, Sem.run_bind, Sem.run_pure, Result.andThen_ok, Sem.run_ite, if_pos this, Int.toNat_natCast]
        have eh : (match hi' with | some v => Instr.sliceBound v cap (if isSlice then .sliceAcap else .sliceAlen) | none => (pure n : Sem Nat)).run P w' = .ok h0 w' := by
          cases hi with
          | none => cases hi' with
            | none => simp only [Option.some.injEq] at e1; subst e1; rfl
            | some _ => exact h2.elim
          | some x => cases hi' with
            | none => exact h2.elim
            | some v =>
              obtain ⟨k, rfl⟩ := nat?_some e1
              obtain rfl := rel_int h2
              exact bound k h0 cap _ (by omega)
        have el : (match lo' with | some v => Instr.sliceBound v h0 .sliceB | none => (pure 0 : Sem Nat)).run P w' = .ok l0 w' := by
          cases lo with
          | none => cases lo' with
            | none => simp only [Option.some.injEq] at e2; subst e2; rfl
            | some _ => exact h1.elim
          | some x => cases lo' with
            | none => exact h1.elim
            | some v =>
              obtain ⟨k, rfl⟩ := nat?_some e2
              obtain rfl := rel_int h1
              exact bound k l0 h0 _ (by omega)
        cases hi' with
        | none =>
          simp only [Sem.run_pure] at eh
          obtain ⟨rfl, _⟩ := Result.ok.inj eh
          simp only [Instr.sliceBounds, Sem.run_bind, Sem.run_pure, Result.andThen_ok, Option.isSome_none, Bool.false_eq_true, if_false]
          cases lo' with
          | none =>
            simp only [Sem.run_pure] at el
            obtain ⟨rfl, _⟩ := Result.ok.inj el
            simp only [Sem.run_bind, Sem.run_pure, Result.andThen_ok]
          | some v =>
            simp only at el
            simp only [Sem.run_bind, Sem.run_pure, Result.andThen_ok, el]
        | some hv =>
          simp only at eh
          simp only [Instr.sliceBounds, Sem.run_bind, Sem.run_pure, Result.andThen_ok, Option.isSome_none, Bool.false_eq_true, if_false]
          rw [eh]
          cases lo' with
          | none =>
            simp only [Sem.run_pure] at el
            obtain ⟨rfl, _⟩ := Result.ok.inj el
            simp only [Sem.run_bind, Sem.run_pure, Result.andThen_ok]
          | some v =>
            simp only at el
            simp only [Sem.run_bind, Sem.run_pure, Result.andThen_ok, el]
      · cases hb
    · cases hb
  · cases hb

theorem extract_mk (s : List UInt8) (l h : Nat) : (⟨s.toArray⟩ : ByteArray).extract l h = ⟨((s.take h).drop l).toArray⟩ := by
  apply ByteArray.ext
  simp [ByteArray.data_extract, List.extract_eq_take_drop, List.drop_take]

theorem opt_none {lo : Option AV} {lo' : Option Value} : (lo = none ∧ lo' = none ∨ ∃ x v, lo = some x ∧ lo' = some v ∧ Rel N ι H w x v) →
    match lo, lo' with | some x, some v => Rel N ι H w x v | none, none => True | _, _ => False := by
  rintro (⟨rfl, rfl⟩ | ⟨x, v, rfl, rfl, h⟩)
  · trivial
  · exact h

theorem slstr_says {t : TypeId} (hu : P.underlying t = some .string) {x r : AV} {v : Value} {lo hi : Option AV} {lo' hi' : Option Value} (hx : Rel N ι H w x v)
    (h1 : match lo, lo' with | some x, some v => Rel N ι H w x v | none, none => True | _, _ => False)
    (h2 : match hi, hi' with | some x, some v => Rel N ι H w x v | none, none => True | _, _ => False)
    (h : slstrA x lo hi = some r) : ∃ y, Rel N ι H w r y ∧ ∀ w', (Instr.sliceAt t v lo' hi' none).run P w' = .ok y w' := by
  cases x with
  | str s =>
    simp only [slstrA] at h
    split at h
    · rename_i l m hb
      obtain rfl := Option.some.inj h
      obtain rfl := rel_str hx
      obtain ⟨_, _, hrun⟩ := run_sliceBounds (P := P) false s.length (Nat.le_refl _) h1 h2 hb
      refine ⟨_, .still _ _ (.str _), fun w' => ?_⟩
      simp only [Instr.sliceAt, Instr.slice, Sem.run_bind, run_underlying hu, Result.andThen_ok, Option.isSome_none, Bool.false_eq_true, if_false, Sem.run_pure, size_mk, hrun, extract_mk]
    · cases h
  | _ => cases h

/-- The cut of a slice, without a third bound. -/
theorem run_slice {t el : TypeId} {s : Nat} (hu : P.underlying t = some (.slice el)) (hs : sizeT P el = some s) {lo hi : Option AV} {lo' hi' : Option Value} {n l m cap : Nat} (hc : n ≤ cap) (a : Option Addr)
    (h1 : match lo, lo' with | some x, some v => Rel N ι H w x v | none, none => True | _, _ => False)
    (h2 : match hi, hi' with | some x, some v => Rel N ι H w x v | none, none => True | _, _ => False)
    (hb : slBounds n lo hi = some (l, m)) (w' : World) :
    (Instr.sliceAt t (.slice a n cap) lo' hi' none).run P w' = .ok (.slice (if cap = l then a else a.map (·.add (l * s))) (m - l) (cap - l)) w' := by
  obtain ⟨_, _, hrun⟩ := run_sliceBounds (P := P) true cap hc h1 h2 hb
  simp only [Instr.sliceAt, Instr.slice, Sem.run_bind, run_underlying hu, Result.andThen_ok, Sem.run_pure, hrun, run_sizeOf hs]

theorem slice_says {t el : TypeId} {s : Nat} (hu : P.underlying t = some (.slice el)) (hs : sizeT P el = some s) (h0 : s ≠ 0) {x r : AV} {v : Value} {lo hi : Option AV} {lo' hi' : Option Value} (hx : Rel N ι H w x v)
    (h1 : match lo, lo' with | some x, some v => Rel N ι H w x v | none, none => True | _, _ => False)
    (h2 : match hi, hi' with | some x, some v => Rel N ι H w x v | none, none => True | _, _ => False)
    (h : sliceA H s x lo hi = some r) : ∃ y, Rel N ι H w r y ∧ ∀ w', (Instr.sliceAt t v lo' hi' none).run P w' = .ok y w' := by
  cases x with
  | sl l =>
    simp only [sliceA] at h
    split at h
    · rename_i a b hb
      split at h
      · rename_i hsz
        obtain rfl := Option.some.inj h
        cases hx with
        | still _ _ hv => cases hv with
          | sl0 ad c0 had =>
            have hrun := run_slice (P := P) hu hs (Nat.zero_le c0) ad h1 h2 hb
            obtain ⟨e1, e2, _⟩ := run_sliceBounds (P := P) false c0 (Nat.zero_le c0) h1 h2 hb
            have : a = 0 := by simp at e2; omega
            have : b = 0 := by simp at e2; omega
            subst a; subst b
            exact ⟨.slice ad 0 c0, .still _ _ (by simpa using VD.sl0 ad c0 had), fun w' => by rw [hrun]; cases ad <;> simp [Addr.add]⟩
          | sl sz _ bk o cap vf hc hszs hw hr =>
            have hss : l ≠ [] → sz = s := by
              intro hne
              cases l with
              | nil => exact absurd rfl hne
              | cons e l =>
                simp only [AV.sized, List.all_cons, Bool.and_eq_true, beq_iff_eq] at hsz
                exact (hszs e List.mem_cons_self).symm.trans hsz.1
            have hrun := run_slice (P := P) hu hs hc (some ⟨bk, o, none⟩) h1 h2 hb
            obtain ⟨e1, e2, _⟩ := run_sliceBounds (P := P) false l.length (Nat.le_refl _) h1 h2 hb
            have hlen : ((l.take b).drop a).length = b - a := by simp; omega
            by_cases hcap : cap = a
            · have hnil : (l.take b).drop a = [] := by apply List.eq_nil_of_length_eq_zero; omega
              refine ⟨.slice (some ⟨bk, o, none⟩) ((l.take b).drop a).length (cap - a), .still _ _ (.sl sz _ bk o (cap - a) vf (by rw [hlen]; omega) ?_ ?_ ?_), fun w' => by rw [hrun, if_pos hcap, hlen]⟩
              · rw [hnil]; simp
              · rw [hnil]; simp
              · rw [hnil]; simp
            · have hidx : ∀ (i : Nat) (e : AV), ((l.take b).drop a)[i]? = some e → l[a + i]? = some e := by
                intro i e hi
                rw [List.getElem?_drop] at hi
                rw [List.getElem?_take] at hi
                split at hi
                · exact hi
                · cases hi
              by_cases hne : l = []
              · subst hne
                refine ⟨_, .still _ _ (?_ : VD _ _ (.sl ((List.take b []).drop a)) (.slice (if cap = a then some ⟨bk, o, none⟩ else (some (⟨bk, o, none⟩ : Addr)).map (·.add (a * s))) (b - a) (cap - a))), fun w' => by rw [hrun]⟩
                have : b - a = 0 := by simp at hlen; omega
                rw [this]
                rw [List.take_nil, List.drop_nil]
                exact VD.sl0 _ _ (fun e => by split at e <;> cases e)
              obtain rfl := hss hne
              refine ⟨.slice (some ⟨bk, o + a * sz, none⟩) ((l.take b).drop a).length (cap - a), .still _ _ (.sl sz _ bk (o + a * sz) (cap - a) (fun i j => vf (a + i) j) (by rw [hlen]; omega) ?_ ?_ ?_), fun w' => by rw [hrun, if_neg hcap, hlen]; simp [Addr.add_lit]⟩
              · intro e he
                exact hszs e (List.mem_of_mem_take (List.mem_of_mem_drop he))
              · intro i e j c hi hj
                have := hw (a + i) e j c (hidx i e hi) hj
                rw [show o + a * sz + i * sz + j = o + (a + i) * sz + j by rw [Nat.add_mul]; omega]
                exact this
              · intro i e j c hi hj
                exact hr (a + i) e j c (hidx i e hi) hj
      · cases h
    · cases h
  | zs nl =>
    simp only [sliceA] at h
    split at h
    · rename_i p hb
      obtain ⟨a, b⟩ := p
      obtain rfl := Option.some.inj h
      cases hx with
      | still _ _ hv => cases hv with
        | zs _ ad had =>
          have hrun := run_slice (P := P) hu hs (Nat.le_refl 0) ad h1 h2 hb
          obtain ⟨e1, e2, _⟩ := run_sliceBounds (P := P) false 0 (Nat.le_refl _) h1 h2 hb
          have : a = 0 := by omega
          have : b = 0 := by omega
          subst a; subst b
          exact ⟨_, .still _ _ (.zs nl ad had), fun w' => by rw [hrun]; rfl⟩
    · cases h
  | own k ver off len =>
    simp only [sliceA] at h
    split at h
    · rename_i a b hb
      split at h
      · rename_i bl hbl
        split at h
        · rename_i hsz
          obtain ⟨hsz, hst⟩ := hsz
          obtain ⟨e1, e2, _⟩ := run_sliceBounds (P := P) false len (Nat.le_refl _) h1 h2 hb
          cases hx with
          | still _ _ hv => cases hv
          | ownDead _ _ _ _ _ _ _ _ hd => rw [hd] at hbl; cases hbl
          | own _ _ _ _ c b' hb' g0 g1 g2 g4 g3 =>
            obtain rfl : b' = bl := Option.some.inj (hb'.symm.trans hbl)
            have hrun := run_slice (P := P) hu hs g2 (some ⟨(ι k).1, off * b'.sz, none⟩) h1 h2 hb
            split at h
            · rename_i hlt
              obtain rfl := Option.some.inj h
              refine ⟨.slice (some ⟨(ι k).1, (off + a) * b'.sz, none⟩) (b - a) (c - a), .own k ver (off + a) (b - a) (c - a) b' hb' g0 (by omega) (by omega) (by omega) ?_, fun w' => ?_⟩
              · have : off + a + (c - a) = off + c := by omega
                rw [this]; exact g3
              · rw [hrun, if_neg (by omega), ← hsz, Nat.add_mul]; simp [Addr.add_lit]
            · rename_i hlt
              obtain rfl := Option.some.inj h
              have hba : b - a = 0 := by omega
              refine ⟨_, ?_, hrun⟩
              rw [hba]
              split
              · exact .still _ _ (.sl0 _ _ (fun e => by cases e))
              · exact .still _ _ (.sl0 _ _ (fun e => by cases e))
        · cases h
      · cases h
    · cases h
  | _ => cases h

end Go.Den
