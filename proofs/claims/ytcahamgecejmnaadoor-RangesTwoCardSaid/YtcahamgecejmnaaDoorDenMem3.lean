/-
  Literals of structs and slices, and append. Its conditions: none.
-/
import Derived.Test.YtcahamgecejmnaaDoorDenMem2
import Derived.Laws.Append
import Derived.Laws.AppendOwn
namespace Go.Den
open Go

variable {P : Program} {X : Ctx} {F : Nat → Prop} {B : Nat} {ι : Pos} {H : Heap} {w : World} {N : Nat → Prop}

/-- Cells written over a row's. -/
theorem foldl_get (vs : List Value) : ∀ (n off : Nat) (cells : Array Value), off + n + vs.length ≤ cells.size →
    ((vs.zipIdx n).foldl (fun cs (c, j) => cs.setIfInBounds (off + j) c) cells).size = cells.size ∧
    ∀ k, ((vs.zipIdx n).foldl (fun cs (c, j) => cs.setIfInBounds (off + j) c) cells)[k]? = if off + n ≤ k ∧ k < off + n + vs.length then vs[k - (off + n)]? else cells[k]? := by
  induction vs with
  | nil => intro n off cells _; exact ⟨rfl, fun k => by rw [if_neg (by simp)]; rfl⟩
  | cons v vs ih =>
    intro n off cells hl
    simp only [List.zipIdx_cons, List.foldl_cons]
    simp only [List.length_cons] at hl
    obtain ⟨h1, h2⟩ := ih (n + 1) off (cells.setIfInBounds (off + n) v) (by simp; omega)
    refine ⟨h1.trans (by simp), fun k => ?_⟩
    rw [h2 k]
    by_cases c1 : off + (n + 1) ≤ k ∧ k < off + (n + 1) + vs.length
    · rw [if_pos c1, if_pos (by simp only [List.length_cons]; omega)]
      rw [show k - (off + n) = (k - (off + (n + 1))) + 1 by omega]; rfl
    · rw [if_neg c1]
      by_cases c2 : k = off + n
      · subst c2
        rw [if_pos (by simp only [List.length_cons]; omega)]
        have : off + n < cells.size := by omega
        simp [this]
      · rw [if_neg (by simp only [List.length_cons]; omega)]
        simp only [Array.getElem?_setIfInBounds]
        rw [if_neg (by omega)]

theorem array_fold (v : Array Value) (off : Nat) (cells : Array Value) (hl : off + v.size ≤ cells.size) :
    (v.zipIdx.foldl (fun cs (c, j) => cs.setIfInBounds (off + j) c) cells).size = cells.size ∧
    ∀ k, (v.zipIdx.foldl (fun cs (c, j) => cs.setIfInBounds (off + j) c) cells)[k]? = if off ≤ k ∧ k < off + v.size then v[k - off]? else cells[k]? := by
  have h := foldl_get v.toList 0 off cells (by simpa using hl)
  have e : v.zipIdx.foldl (fun cs (c, j) => cs.setIfInBounds (off + j) c) cells = (v.toList.zipIdx 0).foldl (fun cs (c, j) => cs.setIfInBounds (off + j) c) cells := by
    rw [← Array.foldl_toList]; simp [Array.toList_zipIdx]
  rw [e]
  refine ⟨h.1, fun k => ?_⟩
  have := h.2 k
  simpa using this

/-- A row of cells and what is read of it. -/
def CellsOK (N : Nat → Prop) (ι : Pos) (H : Heap) (w : World) (cs : List AV) (cells : Array Value) : Prop :=
  cs.length = cells.size ∧ ∀ (j : Nat) (c : AV), cs[j]? = some c → ∃ u, cells[j]? = some u ∧ one u ∧ Rel N ι H w c u

theorem fill_says (place : Nat → Option (Nat × Nat)) : ∀ (qs : List (Nat × Value)) (ps : List (Nat × List AV)) (cs r : List AV) (cells : Array Value), CellsOK N ι H w cs cells → fillA ps cs = some r →
    All2 (fun (q : Nat × Value) (p : Nat × List AV) => place q.1 = some (p.1, p.2.length) ∧ CellsOK N ι H w p.2 q.2.cells) qs ps →
    ∃ cells', Instr.fill place cells qs = some cells' ∧ CellsOK N ι H w r cells'
  | _, _, cs, r, cells, hc, h, .nil => by
    obtain rfl := Option.some.inj h
    exact ⟨cells, rfl, hc⟩
  | (i, v) :: qs, (off, xs) :: ps, cs, r, cells, hc, h, .cons h1 h2 => by
    simp only [fillA] at h
    split at h
    · rename_i hle
      obtain ⟨g1, g2, g3⟩ := h1
      simp only at g1 g2 g3
      have hfit : off + v.cells.size ≤ cells.size := by rw [← g2, ← hc.1]; exact hle
      obtain ⟨f1, f2⟩ := array_fold v.cells off cells hfit
      have hnew : CellsOK N ι H w (setFrom cs off xs) (v.cells.zipIdx.foldl (fun cs (c, j) => cs.setIfInBounds (off + j) c) cells) := by
        refine ⟨(setFrom_length hle).trans (hc.1.trans f1.symm), fun j c hj => ?_⟩
        rw [setFrom_get hle] at hj
        rw [f2 j, ← g2]
        split at hj
        · rename_i hin
          rw [if_pos hin]
          exact g3 (j - off) c hj
        · rename_i hin
          rw [if_neg hin]
          exact hc.2 j c hj
      obtain ⟨cells', e, hc'⟩ := fill_says place qs ps _ r _ hnew h h2
      refine ⟨cells', ?_, hc'⟩
      have hno : ¬ ((decide (v.cells.size ≠ xs.length) || decide (off + v.cells.size > cells.size)) = true) := by
        simp; omega
      simp only [Instr.fill, g1]
      rw [if_neg hno]
      exact e
    · cases h

theorem cellsOK_of {x : AV} {v : Value} (hx : Rel N ι H w x v) (hs : x.solid = true) : CellsOK N ι H w x.cells v.cells := by
  obtain ⟨h1, h2⟩ := cells_both hx hs
  exact ⟨h1, fun j c hj => by obtain ⟨u, a, b, c', _⟩ := h2 j c hj; exact ⟨u, a, b, c'⟩⟩

theorem agg_of {cs : List AV} {cells : Array Value} (h : CellsOK N ι H w cs cells) : Rel N ι H w (.agg cs) (.agg cells) := by
  have := Rel.agg (N := N) (ι := ι) (H := H) (w := w) cs cells.toList (by simpa using h.1) ?_ ?_
  · simpa using this
  · intro v hv
    obtain ⟨j, hj, rfl⟩ := List.getElem_of_mem hv
    have hlt : j < cs.length := by rw [h.1]; simpa using hj
    obtain ⟨u, a, b, _⟩ := h.2 j _ (List.getElem?_eq_getElem hlt)
    have : cells.toList[j]? = some u := by simpa using a
    rw [List.getElem?_eq_getElem hj] at this
    rw [Option.some.inj this]; exact b
  · intro i c v h1 h2
    obtain ⟨u, a, b, c'⟩ := h.2 i c h1
    have : cells.toList[i]? = some u := by simpa using a
    rw [h2] at this
    rw [Option.some.inj this]; exact c'

end Go.Den
