/-
  What the call's own blocks may become, and how a store is run. Its conditions: none.
-/
import Derived.Test.YtcahamgecejmnaaDoorDenEq2
namespace Go.Den
open Go

variable {P : Program} {X : Ctx} {F : Nat → Prop} {B : Nat} {ι : Pos} {H : Heap} {w : World} {N : Nat → Prop}

def Pos.set (ι : Pos) (k : Key) (p : Nat × Nat) : Pos := fun k' => if k' = k then p else ι k'

/-- A block of the call's own is made, or turned, or made anew elsewhere. -/
theorem SR.put (hS : SR X F B ι H w) (k : Key) (ver' : Nat) (b' : Blk) (p : Nat × Nat) (w' : World) (cs' : Array Value) (T : TypeId)
    (hver : (H k).1 < ver' ∨ ((H k).1 = ver' ∧ ∃ b, (H k).2 = some b ∧ p = ι k ∧ b'.sz = b.sz ∧ b'.es.length = b.es.length))
    (hp : (∃ bl, (H k).2 = some bl ∧ bl.frz = false ∧ p.1 = (ι k).1) ∨ w.heap.size ≤ p.1) (hos : w'.os = w.os) (htape : w'.tape = w.tape) (hout : w'.output = w.output) (hsize : w.heap.size ≤ w'.heap.size) (h0 : b'.sz ≠ 0)
    (hkeep : ∀ b, b < w.heap.size → b ≠ p.1 → w'.heap[b]? = w.heap[b]?) (hrow : w'.heap[p.1]? = some (.cells cs' T (0, 0))) (hcs : cs'.size = p.2) (hroom : b'.es.length * b'.sz ≤ p.2)
    (hes : ∀ e ∈ b'.es, e.cells.length = b'.sz)
    (hcell : ∀ (i : Nat) (e : AV) (j : Nat) (c : AV), b'.es[i]? = some e → e.cells[j]? = some c → ∃ v, cs'[i * b'.sz + j]? = some v ∧ one v ∧ Rel (bad F ι H) ι H w c v ∧ (b'.still = true → VD (bad F ι H) w c v)) :
    SR X F B (ι.set k p) (H.set k (ver', some b')) w' ∧ Adv ι H w (ι.set k p) (H.set k (ver', some b')) w' := by
  have eqk : ∀ k', k' = k → (ι.set k p) k' = p ∧ (H.set k (ver', some b')) k' = (ver', some b') := fun k' e => ⟨if_pos e, if_pos e⟩
  have nek : ∀ k', k' ≠ k → (ι.set k p) k' = ι k' ∧ (H.set k (ver', some b')) k' = H k' := fun k' e => ⟨if_neg e, if_neg e⟩
  have apart : ∀ k2, k2 ≠ k → (H k2).2.isSome = true → (ι k2).1 ≠ p.1 := by
    intro k2 hne h2 e
    rcases hp with ⟨bl, h1, _, h3⟩ | h1
    · exact hne (hS.inj k2 k h2 (by rw [h1]; rfl) (e.trans h3))
    · have := hS.lt h2; omega
  have hA : Adv ι H w (ι.set k p) (H.set k (ver', some b')) w' := by
    refine ⟨hos, htape, hout, hsize, fun b hb hn => hkeep b hb ?_, fun k' bl' hk' hf' => ?_, fun k' => ?_, fun k' b'' e1 e2 => ?_⟩
    · rintro rfl
      rcases hp with ⟨bl, h1, hf, h3⟩ | h1
      · exact hn ⟨k, bl, h1, hf, h3.symm⟩
      · omega
    · by_cases e : k' = k
      · rw [(eqk k' e).1]
        rcases hp with ⟨bl, h1, hf, h3⟩ | h1
        · exact .inl ⟨k, bl, h1, hf, h3.symm⟩
        · exact .inr h1
      · rw [(nek k' e).2] at hk'
        rw [(nek k' e).1]
        exact .inl ⟨k', bl', hk', hf', rfl⟩
    · by_cases e : k' = k
      · rw [(eqk k' e).2, e]
        rcases hver with h | ⟨h, _⟩
        · exact Nat.le_of_lt h
        · exact Nat.le_of_eq h
      · rw [(nek k' e).2]; exact Nat.le_refl _
    · by_cases e : k' = k
      · rw [(eqk k' e).2] at e1 e2
        rw [(eqk k' e).1]
        subst e
        obtain rfl := Option.some.inj e2
        rcases hver with h | ⟨h, b, hb, hp', hs, hl⟩
        · simp only at e1; omega
        · exact ⟨b, hb, hp', hs, hl⟩
      · rw [(nek k' e).2] at e2
        rw [(nek k' e).1]
        exact ⟨b'', e2, rfl, rfl, rfl⟩
  refine ⟨⟨fun k1 k2 h1 h2 e => ?_, fun k1 h1 => ?_, hS.fb, Nat.le_trans hS.szB hsize, fun k1 b1 h1 hz => ?_, fun k1 b1 h1 hz => ?_, fun n v hg => (hS.glob n v hg).mono hA.later⟩, hA⟩
  · by_cases e1 : k1 = k
    · by_cases e2 : k2 = k
      · rw [e1, e2]
      · rw [(eqk k1 e1).1, (nek k2 e2).1] at e
        rw [(nek k2 e2).2] at h2
        exact absurd e.symm (apart k2 e2 h2)
    · by_cases e2 : k2 = k
      · rw [(nek k1 e1).1, (eqk k2 e2).1] at e
        rw [(nek k1 e1).2] at h1
        exact absurd e (apart k1 e1 h1)
      · rw [(nek k1 e1).1, (nek k2 e2).1] at e
        rw [(nek k1 e1).2] at h1
        rw [(nek k2 e2).2] at h2
        exact hS.inj k1 k2 h1 h2 e
  · by_cases e1 : k1 = k
    · rw [(eqk k1 e1).1]
      rcases hp with ⟨bl, h2, _, h3⟩ | h2
      · rw [h3]; exact hS.base k (by rw [h2]; rfl)
      · exact Nat.le_trans hS.szB h2
    · rw [(nek k1 e1).2] at h1
      rw [(nek k1 e1).1]; exact hS.base k1 h1
  · by_cases e1 : k1 = k
    · rw [(eqk k1 e1).2] at h1
      obtain rfl := Option.some.inj h1
      rw [(eqk k1 e1).1]
      refine ⟨cs', T, hrow, hcs, hroom, hes, fun i e j c g1 g2 => ?_⟩
      obtain ⟨v, hv, ho, hr, hs⟩ := hcell i e j c g1 g2
      exact ⟨v, hv, ho, hr.adv hA, fun q => (hs q).mono hA.later⟩
    · rw [(nek k1 e1).2] at h1
      rw [(nek k1 e1).1]
      obtain ⟨cs, T1, hB⟩ := hS.blk k1 b1 h1 hz
      have hlive : (H k1).2.isSome = true := by rw [h1]; rfl
      exact ⟨cs, T1, hB.adv hA (hkeep _ (hS.lt hlive) (apart k1 e1 hlive))⟩
  · by_cases e1 : k1 = k
    · rw [(eqk k1 e1).2] at h1
      obtain rfl := Option.some.inj h1
      exact absurd hz h0
    · rw [(nek k1 e1).2] at h1
      rw [(nek k1 e1).1]
      have hlive : (H k1).2.isSome = true := by rw [h1]; rfl
      exact (hS.obj k1 b1 h1 hz).keep (hkeep _ (hS.lt hlive) (apart k1 e1 hlive))

/-- The same for an object that is no row. -/
theorem SR.putObj (hS : SR X F B ι H w) (k : Key) (ver' : Nat) (b' : Blk) (p : Nat × Nat) (w' : World)
    (hver : (H k).1 < ver' ∨ ((H k).1 = ver' ∧ ∃ b, (H k).2 = some b ∧ p = ι k ∧ b'.sz = b.sz ∧ b'.es.length = b.es.length))
    (hp : (∃ bl, (H k).2 = some bl ∧ bl.frz = false ∧ p.1 = (ι k).1) ∨ w.heap.size ≤ p.1) (hos : w'.os = w.os) (htape : w'.tape = w.tape) (hout : w'.output = w.output) (hsize : w.heap.size ≤ w'.heap.size) (h0 : b'.sz = 0)
    (hkeep : ∀ b, b < w.heap.size → b ≠ p.1 → w'.heap[b]? = w.heap[b]?) (hobj : ObjOK w' p.1 b') :
    SR X F B (ι.set k p) (H.set k (ver', some b')) w' ∧ Adv ι H w (ι.set k p) (H.set k (ver', some b')) w' := by
  have eqk : ∀ k', k' = k → (ι.set k p) k' = p ∧ (H.set k (ver', some b')) k' = (ver', some b') := fun k' e => ⟨if_pos e, if_pos e⟩
  have nek : ∀ k', k' ≠ k → (ι.set k p) k' = ι k' ∧ (H.set k (ver', some b')) k' = H k' := fun k' e => ⟨if_neg e, if_neg e⟩
  have apart : ∀ k2, k2 ≠ k → (H k2).2.isSome = true → (ι k2).1 ≠ p.1 := by
    intro k2 hne h2 e
    rcases hp with ⟨bl, h1, _, h3⟩ | h1
    · exact hne (hS.inj k2 k h2 (by rw [h1]; rfl) (e.trans h3))
    · have := hS.lt h2; omega
  have hA : Adv ι H w (ι.set k p) (H.set k (ver', some b')) w' := by
    refine ⟨hos, htape, hout, hsize, fun b hb hn => hkeep b hb ?_, fun k' bl' hk' hf' => ?_, fun k' => ?_, fun k' b'' e1 e2 => ?_⟩
    · rintro rfl
      rcases hp with ⟨bl, h1, hf, h3⟩ | h1
      · exact hn ⟨k, bl, h1, hf, h3.symm⟩
      · omega
    · by_cases e : k' = k
      · rw [(eqk k' e).1]
        rcases hp with ⟨bl, h1, hf, h3⟩ | h1
        · exact .inl ⟨k, bl, h1, hf, h3.symm⟩
        · exact .inr h1
      · rw [(nek k' e).2] at hk'
        rw [(nek k' e).1]
        exact .inl ⟨k', bl', hk', hf', rfl⟩
    · by_cases e : k' = k
      · rw [(eqk k' e).2, e]
        rcases hver with h | ⟨h, _⟩
        · exact Nat.le_of_lt h
        · exact Nat.le_of_eq h
      · rw [(nek k' e).2]; exact Nat.le_refl _
    · by_cases e : k' = k
      · rw [(eqk k' e).2] at e1 e2
        rw [(eqk k' e).1]
        subst e
        obtain rfl := Option.some.inj e2
        rcases hver with h | ⟨h, b, hb, hp', hs, hl⟩
        · simp only at e1; omega
        · exact ⟨b, hb, hp', hs, hl⟩
      · rw [(nek k' e).2] at e2
        rw [(nek k' e).1]
        exact ⟨b'', e2, rfl, rfl, rfl⟩
  refine ⟨⟨fun k1 k2 h1 h2 e => ?_, fun k1 h1 => ?_, hS.fb, Nat.le_trans hS.szB hsize, fun k1 b1 h1 hz => ?_, fun k1 b1 h1 hz => ?_, fun n v hg => (hS.glob n v hg).mono hA.later⟩, hA⟩
  · by_cases e1 : k1 = k
    · by_cases e2 : k2 = k
      · rw [e1, e2]
      · rw [(eqk k1 e1).1, (nek k2 e2).1] at e
        rw [(nek k2 e2).2] at h2
        exact absurd e.symm (apart k2 e2 h2)
    · by_cases e2 : k2 = k
      · rw [(nek k1 e1).1, (eqk k2 e2).1] at e
        rw [(nek k1 e1).2] at h1
        exact absurd e (apart k1 e1 h1)
      · rw [(nek k1 e1).1, (nek k2 e2).1] at e
        rw [(nek k1 e1).2] at h1
        rw [(nek k2 e2).2] at h2
        exact hS.inj k1 k2 h1 h2 e
  · by_cases e1 : k1 = k
    · rw [(eqk k1 e1).1]
      rcases hp with ⟨bl, h2, _, h3⟩ | h2
      · rw [h3]; exact hS.base k (by rw [h2]; rfl)
      · exact Nat.le_trans hS.szB h2
    · rw [(nek k1 e1).2] at h1
      rw [(nek k1 e1).1]; exact hS.base k1 h1
  · by_cases e1 : k1 = k
    · rw [(eqk k1 e1).2] at h1
      obtain rfl := Option.some.inj h1
      exact absurd h0 hz
    · rw [(nek k1 e1).2] at h1
      rw [(nek k1 e1).1]
      obtain ⟨cs, T1, hB⟩ := hS.blk k1 b1 h1 hz
      have hlive : (H k1).2.isSome = true := by rw [h1]; rfl
      exact ⟨cs, T1, hB.adv hA (hkeep _ (hS.lt hlive) (apart k1 e1 hlive))⟩
  · by_cases e1 : k1 = k
    · rw [(eqk k1 e1).2] at h1
      obtain rfl := Option.some.inj h1
      rw [(eqk k1 e1).1]; exact hobj
    · rw [(nek k1 e1).2] at h1
      rw [(nek k1 e1).1]
      have hlive : (H k1).2.isSome = true := by rw [h1]; rfl
      exact (hS.obj k1 b1 h1 hz).keep (hkeep _ (hS.lt hlive) (apart k1 e1 hlive))

/-- A block of the call's own is only read from now on. -/
theorem SR.freeze (hS : SR X F B ι H w) (k : Key) {b : Blk} (hb : (H k).2 = some b) : SR X F B ι (H.set k ((H k).1, some { b with frz := true })) w ∧ Adv ι H w ι (H.set k ((H k).1, some { b with frz := true })) w := by
  have eqk : ∀ k', k' = k → (H.set k ((H k).1, some { b with frz := true })) k' = ((H k).1, some { b with frz := true }) := fun k' e => if_pos e
  have nek : ∀ k', k' ≠ k → (H.set k ((H k).1, some { b with frz := true })) k' = H k' := fun k' e => if_neg e
  have live : ∀ k', ((H.set k ((H k).1, some { b with frz := true })) k').2.isSome = true → (H k').2.isSome = true := by
    intro k' h
    by_cases e : k' = k
    · rw [e, hb]; rfl
    · rw [nek k' e] at h; exact h
  have hA : Adv ι H w ι (H.set k ((H k).1, some { b with frz := true })) w := by
    refine ⟨rfl, rfl, rfl, Nat.le_refl _, fun _ _ _ => rfl, fun k' bl h1 h2 => ?_, fun k' => ?_, fun k' b'' e1 e2 => ?_⟩
    · by_cases e : k' = k
      · rw [eqk k' e] at h1
        obtain rfl := Option.some.inj h1
        cases h2
      · rw [nek k' e] at h1; exact .inl ⟨k', bl, h1, h2, rfl⟩
    · by_cases e : k' = k
      · rw [eqk k' e, e]; exact Nat.le_refl _
      · rw [nek k' e]; exact Nat.le_refl _
    · by_cases e : k' = k
      · rw [eqk k' e] at e2
        obtain rfl := Option.some.inj e2
        exact ⟨b, by rw [e, hb], rfl, rfl, rfl⟩
      · rw [nek k' e] at e2
        exact ⟨b'', e2, rfl, rfl, rfl⟩
  refine ⟨⟨fun k1 k2 h1 h2 e => hS.inj k1 k2 (live k1 h1) (live k2 h2) e, fun k1 h1 => hS.base k1 (live k1 h1), hS.fb, hS.szB, fun k1 b1 h1 hz => ?_, fun k1 b1 h1 hz => ?_, fun n v hg => (hS.glob n v hg).mono hA.later⟩, hA⟩
  · by_cases e : k1 = k
    · rw [eqk k1 e] at h1
      obtain rfl := Option.some.inj h1
      subst e
      obtain ⟨cs, T, hB⟩ := hS.blk k1 b hb hz
      have := hB.adv hA rfl
      exact ⟨cs, T, this.row, this.size, this.room, this.es, this.cell⟩
    · rw [nek k1 e] at h1
      obtain ⟨cs, T, hB⟩ := hS.blk k1 b1 h1 hz
      exact ⟨cs, T, hB.adv hA rfl⟩
  · by_cases e : k1 = k
    · rw [eqk k1 e] at h1
      obtain rfl := Option.some.inj h1
      subst e
      exact (hS.obj k1 b hb hz).frz
    · rw [nek k1 e] at h1
      exact hS.obj k1 b1 h1 hz

/-- Cells stored one behind the other into a row. -/
structure Stored (w : World) (b : Nat) (cs : Array Value) (T : TypeId) (o : Nat) (vs : List Value) (w' : World) (cs' : Array Value) : Prop where
  os : w'.os = w.os
  tape : w'.tape = w.tape
  output : w'.output = w.output
  size : w'.heap.size = w.heap.size
  row : w'.heap[b]? = some (.cells cs' T (0, 0))
  keep : ∀ b', b' ≠ b → w'.heap[b']? = w.heap[b']?
  n : cs'.size = cs.size
  cell : ∀ (i : Nat), cs'[i]? = if o ≤ i ∧ i < o + vs.length then vs[i - o]? else cs[i]?

theorem run_storeCells (b : Nat) (T : TypeId) : ∀ (vs : List Value) (w : World) (cs : Array Value) (o i : Nat), w.heap[b]? = some (.cells cs T (0, 0)) → (∀ v ∈ vs, one v) → o + i + vs.length ≤ cs.size →
    ∃ w' cs', (storeCells ⟨b, o, none⟩ vs i).run P w = .ok () w' ∧ Stored w b cs T (o + i) vs w' cs'
  | [], w, cs, o, i, hb, _, _ => ⟨w, cs, rfl, rfl, rfl, rfl, rfl, hb, fun _ _ => rfl, rfl, fun j => by rw [if_neg (by simp)]⟩
  | v :: vs, w, cs, o, i, hb, h1, hl => by
    have hlt : o + i < cs.size := by simp only [List.length_cons] at hl; omega
    have hcell : w.cell? ⟨b, o + i, none⟩ = some cs[o + i] := by rw [cell_of_row w b (o + i) cs T (0, 0) hb]; exact Array.getElem?_eq_getElem hlt
    have hfr : w.frozen? ⟨b, o + i, none⟩ = false := frozen_of_row w b (o + i) cs T hb
    have hrow : (w.setCell ⟨b, o + i, none⟩ v).heap[b]? = some (.cells (cs.setIfInBounds (o + i) v) T (0, 0)) := heap_setCell_same w b (o + i) cs T v hb
    obtain ⟨w', cs', hrun, hs⟩ := run_storeCells b T vs (w.setCell ⟨b, o + i, none⟩ v) (cs.setIfInBounds (o + i) v) o (i + 1) hrow (fun u hu => h1 u (List.mem_cons_of_mem _ hu)) (by simp only [List.length_cons] at hl; simp; omega)
    refine ⟨w', cs', ?_, hs.os, hs.tape, hs.output, hs.size.trans (by simp [World.setCell]), hs.row, fun b' hb' => (hs.keep b' hb').trans (heap_setCell_other w ⟨b, o + i, none⟩ b' v hb'), hs.n.trans (by simp), fun j => ?_⟩
    · simp only [storeCells, Sem.run_bind, Addr.add_lit]
      rw [run_store P w ⟨b, o + i, none⟩ v .plain (h1 v List.mem_cons_self), hcell]
      simp only [hfr, Bool.false_eq_true, if_false, Result.andThen_ok]
      exact hrun
    · rw [hs.cell j]
      by_cases c1 : o + (i + 1) ≤ j ∧ j < o + (i + 1) + vs.length
      · rw [if_pos c1, if_pos (by simp only [List.length_cons]; omega)]
        rw [show j - (o + i) = (j - (o + (i + 1))) + 1 by omega]
        rfl
      · rw [if_neg c1]
        by_cases c2 : j = o + i
        · subst c2
          rw [if_pos (by simp only [List.length_cons]; omega)]
          simp [hlt]
        · rw [if_neg (by simp only [List.length_cons]; omega)]
          simp only [Array.getElem?_setIfInBounds]
          rw [if_neg (by omega)]

end Go.Den
