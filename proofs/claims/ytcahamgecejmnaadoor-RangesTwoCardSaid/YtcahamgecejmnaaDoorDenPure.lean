/-
  Plain loops, told by their lists. Its conditions: none.
-/
import Derived.Test.YtcahamgecejmnaaDoorDenBlk
namespace Go.Den
open Go

/-- A fold that may end ahead of time. -/
def foldE {α S E : Type} (f : S → α → E ⊕ S) (fin : S → E) : List α → S → E
  | [], s => fin s
  | x :: r, s => match f s x with
    | .inl e => e
    | .inr s' => foldE f fin r s'

theorem wrap64_id {i : Int} (h0 : -9223372036854775808 ≤ i) (h : i < 9223372036854775808) : IntKind.i64.wrap i = i := by
  simp only [IntKind.wrap, IntKind.bits, IntKind.signed]
  simp
  omega
theorem wrap_succ {n : Nat} (h : n < 9223372036854775807) : IntKind.i64.wrap ((n : Int) + 1) = ((n + 1 : Nat) : Int) := by
  rw [wrap64_id (by omega) (by omega)]; omega

theorem loop_list {α S T E : Type} {l : List α} {mk : S → Nat → T} {body : T → Option (Step T E)} {f : S → α → E ⊕ S} {fin : S → E} (Inv : Nat → S → Prop)
    (hb : ∀ n s x, Inv n s → l[n]? = some x → match f s x with
      | .inl e => body (mk s n) = some (.done e)
      | .inr s' => body (mk s n) = some (.next (mk s' (n + 1))) ∧ Inv (n + 1) s')
    (he : ∀ s, Inv l.length s → body (mk s l.length) = some (.done (fin s))) :
    ∀ (m n : Nat) (s : S), n + m = l.length → Inv n s → loopL body (mk s n) = some (foldE f fin (l.drop n) s)
  | 0, n, s, hn, hi => by
    have : n = l.length := by omega
    subst this
    rw [loopL_done (he s hi), List.drop_length]; rfl
  | m + 1, n, s, hn, hi => by
    have hlt : n < l.length := by omega
    have h := hb n s l[n] hi (List.getElem?_eq_getElem hlt)
    rw [List.drop_eq_getElem_cons hlt]
    simp only [foldE]
    cases hf : f s l[n] with
    | inl e => rw [hf] at h; exact loopL_done h
    | inr s' =>
      rw [hf] at h
      rw [loopL_next h.1]
      exact loop_list Inv hb he m (n + 1) s' (by omega) h.2

/-- A loop over a list's places, from the first one on. -/
theorem loop_list0 {α S T E : Type} (l : List α) (mk : S → Nat → T) {body : T → Option (Step T E)} (f : S → α → E ⊕ S) (fin : S → E) (Inv : Nat → S → Prop)
    (hb : ∀ n s x, n < l.length → Inv n s → l[n]? = some x → match f s x with
      | .inl e => body (mk s n) = some (.done e)
      | .inr s' => body (mk s n) = some (.next (mk s' (n + 1))) ∧ Inv (n + 1) s')
    (he : ∀ s, Inv l.length s → body (mk s l.length) = some (.done (fin s))) {s : S} (hi : Inv 0 s) {t : T} (ht : t = mk s 0) : loopL body t = some (foldE f fin l s) := by
  subst ht
  have := loop_list (l := l) (mk := mk) (f := f) (fin := fin) Inv (fun n s x h1 h2 => hb n s x (List.getElem?_eq_some_iff.1 h2).1 h1 h2) he l.length 0 s (by omega) hi
  simpa using this

/-- The first element for which something is told. -/
theorem foldE_find {α E : Type} (f : α → Option E) (e0 : E) (l : List α) : foldE (fun (_ : Unit) x => match f x with | some e => .inl e | none => .inr ()) (fun _ => e0) l () = (l.findSome? f).getD e0 := by
  induction l with
  | nil => rfl
  | cons x r ih =>
    simp only [foldE, List.findSome?_cons]
    cases f x with
    | some e => rfl
    | none => exact ih

theorem loop_find {α E : Type} {l : List α} {body : Int → Option (Step Int E)} (f : α → Option E) (e0 : E) (hl : l.length ≤ maxLen)
    (hb : ∀ (n : Nat) x, n < l.length → l[n]? = some x → IntKind.i64.wrap ((n : Int) + 1) = ((n + 1 : Nat) : Int) → body n = match f x with | some e => some (.done e) | none => some (.next ((n + 1 : Nat) : Int)))
    (he : body l.length = some (.done e0)) : loopL body 0 = some ((l.findSome? f).getD e0) := by
  rw [← foldE_find]
  refine loop_list0 l (fun (_ : Unit) n => (n : Int)) _ _ (fun _ _ => True) (fun n s x hn _ hx => ?_) (fun _ _ => he) trivial (by rfl)
  have h := hb n x hn hx (wrap_succ (by unfold maxLen at hl; omega))
  cases hf : f x with
  | some e => rw [hf] at h; simpa using h
  | none => rw [hf] at h; simpa using h

theorem idx_nat {α : Type} {l : List α} {n : Nat} : idx l (n : Int) = l[n]? := by
  unfold idx; rw [if_pos (by omega), Int.toNat_natCast]
end Go.Den
