/-
  slices.Grow of a slice without elements as an operation of the reading: what the shelf's contract says. Its conditions: the library's function is laid over the program.
-/
import Derived.Test.YtcahamgecejmnaaDoorDenSound
import Derived.Shelf.Spec.SlicesGrow
namespace Go.Den
open Go

variable {P : Program} {X : Ctx} {F : Nat → Prop} {B : Nat} {ι : Pos} {H : Heap} {w : World} {N : Nat → Prop}

def growW (sz bytes : Nat) (π : Key) : List AV → Heap → Option (AV × Heap)
  | [.zs nl, .int .i64 n], H => if 0 ≤ n ∧ n * bytes ≤ 140737488355328 ∧ n ≤ 4611686018427387904 then
      (if n = 0 then some (.zs nl, H) else some (.own (0 :: π) ((H (0 :: π)).1 + 1) 0 0, fresh H (0 :: π) ⟨false, true, sz, []⟩)) else none
  | _, _ => none

theorem grow_ok {ρ : Go.Shelf.Ren} (L : Go.Proofs.Lays8.n4 P ρ) (i0 : TypeInfo) (z : Value) (k bytes : Nat) (hi : P.info? (ρ.t 25) = some i0) (hz0 : i0.zero = some z) (hz1 : i0.size = k) (hz2 : i0.bytes = bytes) (hzs : z.cells.size = k) (hk : 0 < k)
    {π : Key} {args : List AV} {r : AV} {H' : Heap} (hq : growW k bytes π args H = some (r, H')) (vs : List Value) (hS : SR X F B ι H w) (ha : All2 (Rel (bad F ι H) ι H w) args vs) :
    Calls P (ρ.f 4) vs.toArray w (Post X F B ι H w r H') := by
  unfold growW at hq
  split at hq
  · rename_i nl n
    split at hq
    · rename_i hc
      obtain ⟨x, y, rfl, hx, hy⟩ : ∃ x y, vs = [x, y] ∧ Rel (bad F ι H) ι H w (.zs nl) x ∧ Rel (bad F ι H) ι H w (.int .i64 n) y := by
        cases ha with
        | cons h1 t => cases t with
          | cons h2 t => cases t; exact ⟨_, _, rfl, h1, h2⟩
      obtain rfl := rel_int hy
      obtain ⟨a, rfl, hnl⟩ : ∃ a, x = .slice a 0 0 ∧ (nl = true → a = none) := by
        cases hx with
        | still _ _ h => cases h with
          | zs _ a h => exact ⟨a, rfl, h⟩
      obtain ⟨m, rfl⟩ : ∃ m : Nat, n = m := ⟨n.toNat, by omega⟩
      split at hq
      · rename_i h0
        obtain ⟨rfl, rfl⟩ := Prod.mk.inj (Option.some.inj hq)
        have hm : m = 0 := by omega
        subst hm
        have hcon := Go.Proofs.Any8.slices_Grow_room L a 0 0 0 w (Nat.le_refl _) (by omega) (by omega) (by omega)
        refine hcon.mono ?_
        rintro e w' ⟨rfl, rfl⟩
        exact ⟨_, ι, rfl, hS, .refl _ _ _, .still _ _ (.zs nl a hnl)⟩
      · rename_i h0
        obtain ⟨rfl, rfl⟩ := Prod.mk.inj (Option.some.inj hq)
        have hm : 0 < m := by omega
        have hbig : m * bytes ≤ 140737488355328 := by have := hc.2.1; omega
        have hcon := Go.Proofs.Any8.slices_Grow_grow L i0 z hi hz0 (by omega) a 0 0 m [] w (Nat.le_refl _) (by omega) (by rw [Nat.zero_add, hz2]; exact hbig) (by omega) (by simp) (fun _ => rfl) (fun _ _ j v hj => by simp at hj)
        refine hcon.mono ?_
        rintro e w' ⟨rfl, rfl⟩
        have hge := grownCap_ge w (0 + m) 0 (ρ.t 25)
        generalize grownCap w (0 + m) 0 (ρ.t 25) = c at hge
        have hcs : ((([] : List Value).toArray ++ Builtin.zeroCells z.cells (0 + m - 0) ++ Builtin.zeroCells z.cells (c - (0 + m)))).size = c * k := by
          simp only [Array.size_append, size_zeroCells, hzs, List.size_toArray, List.length_nil, Nat.zero_add, Nat.sub_zero]
          rw [← Nat.add_mul]; congr 1; omega
        generalize (([] : List Value).toArray ++ Builtin.zeroCells z.cells (0 + m - 0) ++ Builtin.zeroCells z.cells (c - (0 + m))) = cs at hcs
        have hput := SR.put hS (0 :: π) ((H (0 :: π)).1 + 1) ⟨false, true, k, []⟩ (w.heap.size, c * k) (w.drew.alloc (.cells cs (ρ.t 25))) cs (ρ.t 25)
          (.inl (Nat.lt_succ_self _)) (.inr (Nat.le_refl _)) rfl rfl rfl (by simp) (by simp only; omega)
          (fun b hb hne => by
            show (w.heap.push _)[b]? = w.heap[b]?
            rw [Array.getElem?_push, if_neg (by omega)])
          (by show (w.heap.push _)[w.heap.size]? = _; simp) hcs (by simp) (fun e he => by cases he) (fun i e j cc q1 => by simp at q1)
        obtain ⟨p1, p2⟩ := hput
        refine ⟨_, _, rfl, p1, p2, ?_⟩
        have hlive : (H.set (0 :: π) ((H (0 :: π)).1 + 1, some ⟨false, true, k, []⟩)).live (0 :: π) ((H (0 :: π)).1 + 1) = some ⟨false, true, k, []⟩ := by simp [Heap.live, Heap.set]
        have hr := Rel.own (N := bad F (ι.set (0 :: π) (w.heap.size, c * k)) (H.set (0 :: π) ((H (0 :: π)).1 + 1, some ⟨false, true, k, []⟩))) (ι := ι.set (0 :: π) (w.heap.size, c * k)) (w := w.drew.alloc (.cells cs (ρ.t 25)))
          (0 :: π) ((H (0 :: π)).1 + 1) 0 0 c ⟨false, true, k, []⟩ hlive (by simp only; omega) (by simp) (Nat.zero_le _) (by simp) (by simp [Pos.set])
        unfold fresh
        simpa [Pos.set] using hr
    · cases hq
  · cases hq
end Go.Den
