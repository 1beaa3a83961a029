/-
  What surely comes ahead of an operation, in whatever order is drawn. Its conditions: none.
-/
import Derived.Test.YtcahamgecejmnaaDoorDenTr
namespace Go.Den
open Go

theorem ancs_length (after : Nat → List Nat) : ∀ n, (ancs after n).length = n
  | 0 => rfl
  | n + 1 => by simp [ancs, ancs_length after n]
theorem ancs_get (after : Nat → List Nat) {i : Nat} : ∀ {n : Nat}, i < n → (ancs after n).getD i [] = (List.range i).filter fun j => (after i).any fun k => k == j || ((ancs after i).getD k []).contains j
  | n + 1, h => by
    simp only [ancs]
    by_cases hi : i < n
    · rw [List.getD_eq_getElem?_getD, List.getElem?_append_left (by rw [ancs_length]; exact hi), ← List.getD_eq_getElem?_getD]
      exact ancs_get after hi
    · have : i = n := by omega
      subst this
      rw [List.getD_eq_getElem?_getD, List.getElem?_append_right (by rw [ancs_length]; omega), ancs_length]
      simp
theorem ancs_mono (after : Nat → List Nat) {k i n : Nat} (hk : k < i) (hi : i ≤ n) : (ancs after i).getD k [] = (ancs after n).getD k [] := by
  rw [ancs_get after hk, ancs_get after (by omega)]

/-- Where whatever has come up has all ahead of it up, what is ready has all its forebears up. -/
theorem anc_up {after : Nat → List Nat} {up : Nat → Bool} (hup : ∀ i, up i = true → ∀ j ∈ after i, up j = true) {n : Nat} : ∀ (i : Nat), i < n → (∀ j ∈ after i, up j = true) → ∀ j ∈ (ancs after n).getD i [], up j = true := by
  intro i
  induction i using Nat.strongRecOn with
  | ind i ih =>
    intro hi hr j hj
    rw [ancs_get after hi] at hj
    obtain ⟨_, hj⟩ := List.mem_filter.1 hj
    obtain ⟨k, hk, hkj⟩ := List.any_eq_true.1 hj
    simp only [Bool.or_eq_true, beq_iff_eq] at hkj
    rcases hkj with rfl | hkj
    · exact hr k hk
    · by_cases hki : k < i
      · rw [ancs_mono after hki (Nat.le_of_lt hi)] at hkj
        exact ih k hki (by omega) (hup k (hr k hk)) j (by simpa using hkj)
      · rw [List.getD_eq_getElem?_getD, List.getElem?_eq_none (by rw [ancs_length]; omega)] at hkj
        simp at hkj
end Go.Den
