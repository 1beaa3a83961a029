/-
  Characters of a text, and searches along it, told plainly. Its conditions: sizes of texts.
-/
import Derived.Test.YtkmefgabcdocpaaDoorDenPure
namespace Go.Den
open Go

theorem get_at {s : List UInt8} {i : Nat} {b : UInt8} (h : s[i]? = some b) : (⟨s.toArray⟩ : ByteArray).get! i = b := by
  obtain ⟨hi, rfl⟩ := List.getElem?_eq_some_iff.1 h
  show s.toArray[i]! = s[i]
  simp [hi]
theorem rune_low {s : List UInt8} {i : Nat} {b : UInt8} (h : s[i]? = some b) (hb : b.toNat < 128) : runeAt s i = (b.toNat, 1) := by
  unfold runeAt Utf8.decode
  simp only [Nat.add_zero, get_at h]
  rw [if_pos (by omega)]
theorem rune_high {s : List UInt8} {i : Nat} {b : UInt8} (h : s[i]? = some b) (hb : 128 ≤ b.toNat) : 128 ≤ (runeAt s i).1 := by
  unfold runeAt Utf8.decode
  simp only [Nat.add_zero, get_at h, Utf8.runeError]
  rw [if_neg (by omega)]
  split
  · split <;> simp only [] <;> omega
  · split
    · split
      · rename_i hc; simp only [Bool.and_eq_true, decide_eq_true_eq] at hc; simp only []; omega
      · simp only []; omega
    · split
      · split
        · rename_i hc; simp only [Bool.and_eq_true, decide_eq_true_eq] at hc; simp only []; omega
        · simp only []; omega
      · simp only []; omega

theorem rune_max {s : List UInt8} {i : Nat} {b : UInt8} (h : s[i]? = some b) : (runeAt s i).1 ≤ 1114111 := by
  have hb := b.toNat_lt
  unfold runeAt Utf8.decode
  simp only [Nat.add_zero, get_at h, Utf8.runeError]
  split
  · simp only []; omega
  · split
    · split <;> simp only [] <;> omega
    · split
      · split <;> simp only [] <;> omega
      · split
        · split
          · rename_i hc; simp only [Bool.and_eq_true, decide_eq_true_eq, Utf8.valid, Bool.or_eq_true] at hc; simp only []; omega
          · simp only []; omega
        · simp only []; omega

/-- A search along a text for a character that is not as it should be; what is no single byte is none that should be. -/
theorem loop_rune {s : List UInt8} {E : Type} {body : Int → Option (Step Int E)} (bad : Nat → Bool) (hit : Nat → E) (e0 : E) (hbad : ∀ c, 128 ≤ c → c ≤ 1114111 → bad c = true)
    (hb : ∀ n : Nat, n < s.length → body (n : Int) = if bad (runeAt s n).1 = true then some (.done (hit n)) else some (.next ((n : Int) + ((runeAt s n).2 : Int)))) (he : body (s.length : Int) = some (.done e0)) :
    ∀ (m n : Nat), n + m = s.length → (loopL body (n : Int) = some e0 ∧ ∀ i b, n ≤ i → s[i]? = some b → bad b.toNat = false) ∨
      (∃ k : Nat, loopL body (n : Int) = some (hit k) ∧ ∃ i b, n ≤ i ∧ s[i]? = some b ∧ bad b.toNat = true)
  | 0, n, h => by
    have : n = s.length := by omega
    subst this
    exact .inl ⟨loopL_done he, fun i b hi h => by have := (List.getElem?_eq_some_iff.1 h).1; omega⟩
  | m + 1, n, h => by
    have hn : n < s.length := by omega
    obtain ⟨b, hsb⟩ : ∃ b, s[n]? = some b := ⟨s[n], List.getElem?_eq_getElem hn⟩
    have hstep := hb n hn
    by_cases hl : b.toNat < 128
    · rw [rune_low hsb hl] at hstep
      simp only [] at hstep
      by_cases hc : bad b.toNat = true
      · rw [if_pos hc] at hstep
        exact .inr ⟨n, loopL_done hstep, n, b, Nat.le_refl _, hsb, hc⟩
      · rw [if_neg hc] at hstep
        have e : ((n : Int) + ((1 : Nat) : Int)) = ((n + 1 : Nat) : Int) := by omega
        rw [e] at hstep
        rw [loopL_next hstep]
        rcases loop_rune bad hit e0 hbad hb he m (n + 1) (by omega) with ⟨h1, h2⟩ | ⟨k, h1, i, b', h2, h3, h4⟩
        · refine .inl ⟨h1, fun i b' hi hs => ?_⟩
          by_cases hi' : i = n
          · subst hi'; rw [hsb] at hs; obtain rfl := Option.some.inj hs; simpa using hc
          · exact h2 i b' (by omega) hs
        · exact .inr ⟨k, h1, i, b', by omega, h3, h4⟩
    · have := rune_high hsb (by omega)
      rw [if_pos (hbad _ this (rune_max hsb))] at hstep
      exact .inr ⟨n, loopL_done hstep, n, b, Nat.le_refl _, hsb, hbad _ (by omega) (by have := b.toNat_lt; omega)⟩

/-- The same over the whole text. -/
theorem loop_rune0 {s : List UInt8} {E : Type} {body : Int → Option (Step Int E)} (bad : Nat → Bool) (hit : Nat → E) (e0 : E) (hbad : ∀ c, 128 ≤ c → c ≤ 1114111 → bad c = true)
    (hb : ∀ n : Nat, n < s.length → body (n : Int) = if bad (runeAt s n).1 = true then some (.done (hit n)) else some (.next ((n : Int) + ((runeAt s n).2 : Int)))) (he : body (s.length : Int) = some (.done e0)) :
    (loopL body 0 = some e0 ∧ s.all (fun b => !bad b.toNat) = true) ∨ (∃ k : Nat, loopL body 0 = some (hit k) ∧ s.all (fun b => !bad b.toNat) = false) := by
  rcases loop_rune bad hit e0 hbad hb he s.length 0 (by omega) with ⟨h1, h2⟩ | ⟨k, h1, i, b, _, h3, h4⟩
  · refine .inl ⟨h1, ?_⟩
    rw [List.all_eq_true]
    intro b hb
    obtain ⟨i, hi, rfl⟩ := List.getElem_of_mem hb
    simp [h2 i _ (Nat.zero_le _) (List.getElem?_eq_getElem hi)]
  · refine .inr ⟨k, h1, ?_⟩
    rw [List.all_eq_false]
    exact ⟨b, List.mem_of_getElem? h3, by simp [h4]⟩
end Go.Den
