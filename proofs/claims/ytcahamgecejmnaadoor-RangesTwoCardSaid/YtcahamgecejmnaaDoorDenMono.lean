/-
  More rounds tell the same. Its conditions: none.
-/
import Derived.Test.YtcahamgecejmnaaDoorDenStep
namespace Go.Den
open Go

abbrev Go1 := Nat → List AV → Key → Heap → Option (AV × Heap)
def Le (go go' : Go1) : Prop := ∀ f a π H r, go f a π H = some r → go' f a π H = some r

variable {X : Ctx} {go go' : Go1}

theorem ansA_mono (h : Le go go') {f : Nat} {a : List AV} {r : AV} (e : ansA X go f a = some r) : ansA X go' f a = some r := by
  unfold ansA at *
  split at e
  · exact e
  · split at e
    · rename_i r0 H1 h1
      rw [h _ _ _ _ _ h1]; exact e
    · cases e

theorem callArgs_mono (h : Le go go') {f : Nat} {a : List AV} {π : Key} {H : Heap} {r : AV × Heap} (e : callArgs X go f a π H = some r) : callArgs X go' f a π H = some r := by
  unfold callArgs at *
  cases hw : X.wprim f with
  | some q => rw [hw] at e; exact e
  | none =>
  rw [hw] at e
  simp only at e ⊢
  unfold callArgs0 at *
  split
  · rename_i hs
    rw [if_pos hs] at e
    exact h _ _ _ _ _ e
  · rename_i hs
    rw [if_neg hs] at e
    split at e
    · rename_i as has
      split at e
      · rename_i r0 h0
        simp only [ansA_mono h h0]; exact e
      · cases e
    · exact h _ _ _ _ _ e

theorem callQ_mono (h : Le go go') {f : Nat} {a : List AV} {H : Heap} {r : AV} (e : callQ X go f a H = some r) : callQ X go' f a H = some r := by
  unfold callQ at *
  cases hw : X.wprim f with
  | some q => rw [hw] at e; cases e
  | none =>
  rw [hw] at e
  simp only at e ⊢
  unfold callQ0 at *
  split
  · rename_i hs
    rw [if_pos hs] at e; cases e
  · rename_i hs
    rw [if_neg hs] at e
    split at e
    · rename_i as has
      split at e
      · rename_i r0 h0
        simp only [ansA_mono h h0]; exact e
      · cases e
    · cases e

theorem stepI_mono (h : Le go go') {π : Key} {d : Option Nat} {e : Env} {H : Heap} {i : I} {r : AV × Heap} (g : stepI X go π d e H i = some r) : stepI X go' π d e H i = some r := by
  cases i with
  | call f as =>
    simp only [stepI] at *
    split at g
    · exact callArgs_mono h g
    · cases g
  | _ => exact g

theorem stepQ_mono (h : Le go go') {π : Key} {d : Option Nat} {e : Env} {H : Heap} {i : I} {r : AV} (g : stepQ X go π d e H i = some r) : stepQ X go' π d e H i = some r := by
  cases i with
  | call f as =>
    simp only [stepQ] at *
    split at g
    · exact callQ_mono h g
    · cases g
  | _ => exact g

theorem runOps_mono (h : Le go go') {π : Key} : ∀ (l : List Ins) (s s' : St), runOps X go π l s = some s' → runOps X go' π l s = some s'
  | [], s, s', e => e
  | o :: l, s, s', e => by
    simp only [runOps] at *
    split at e
    · rename_i hw
      split at e
      · rename_i v H hst
        simp only [stepI_mono h hst]
        exact runOps_mono h l _ _ e
      · cases e
    · exact runOps_mono h l _ _ e
    · cases e

theorem runQ_mono (h : Le go go') {π : Key} {H : Heap} : ∀ (l : List Ins) (s s' : Env), runQ X go π H l s = some s' → runQ X go' π H l s = some s'
  | [], s, s', e => e
  | o :: l, s, s', e => by
    simp only [runQ] at *
    split at e
    · rename_i hw
      split at e
      · rename_i v hst
        simp only [stepQ_mono h hst]
        exact runQ_mono h l _ _ e
      · cases e
    · exact runQ_mono h l _ _ e
    · cases e

theorem runE_mono (h : Le go go') {π : Key} : ∀ (l : List EIns) (n : Nat) (e : Env) (H : Heap) (T : LogT) (A : LogA) (p : St × LogT × LogA), runE X go π l n e H T A = some p → runE X go' π l n e H T A = some p
  | [], n, e, H, T, A, p, g => g
  | x :: l, n, e, H, T, A, p, g => by
    simp only [runE] at *
    split at g
    · rename_i hw
      split at g
      · rename_i hx
        split at g
        · rename_i v H' hst
          rw [if_pos hx]
          simp only [stepI_mono h hst]
          exact runE_mono h l _ _ _ _ _ _ g
        · cases g
      · rename_i hx
        split at g
        · rename_i v hst
          rw [if_neg hx]
          simp only [stepQ_mono h hst]
          exact runE_mono h l _ _ _ _ _ _ g
        · cases g
    · exact runE_mono h l _ _ _ _ _ _ g
    · cases g
theorem doneE_mono {a b : Option (St × LogT × LogA)} (h : ∀ p, a = some p → b = some p) {s : St} (e : doneE a = some s) : doneE b = some s := by
  cases a with
  | none => cases e
  | some p => rw [h p rfl]; exact e

theorem iter_mono {f f' : St → Option (Ex × St)} (h : ∀ s r, f s = some r → f' s = some r) : ∀ (n n' : Nat) (s : St) (r : Ex × St), n ≤ n' → iter f n s = some r → iter f' n' s = some r
  | 0, _, _, _, _, e => by cases e
  | n + 1, 0, _, _, hn, _ => by omega
  | n + 1, n' + 1, s, r, hn, e => by
    simp only [iter] at *
    split at e
    · rename_i s1 h1
      rw [h _ _ h1]
      exact iter_mono h n n' s1 r (by omega) e
    · rename_i hne
      rw [h _ _ e]
      obtain ⟨ex, s1⟩ := r
      cases ex with
      | normal => exact absurd e (hne s1)
      | exit _ => rfl
      | ret => rfl

theorem exec_mono (h : Le go go') {k k' : Nat} (hk : k ≤ k') {π : Key} : ∀ (c : C) (s : St) (r : Ex × St), exec X go k π c s = some r → exec X go' k' π c s = some r
  | .skip, s, r, e => e
  | .reg l, s, r, e => by
    simp only [exec] at *
    split at e
    · rename_i s1 h1
      rw [runOps_mono h _ _ _ h1]; exact e
    · cases e
  | .dreg l, s, r, e => by
    simp only [exec] at *
    split at e
    · rename_i s1 h1
      rw [runQ_mono h _ _ _ h1]; exact e
    · cases e
  | .ereg l, s, r, e => by
    simp only [exec] at *
    split at e
    · rename_i s1 h1
      rw [doneE_mono (fun p => runE_mono h _ _ _ _ _ _ p) h1]; exact e
    · cases e
  | .seq a b, s, r, e => by
    simp only [exec] at *
    split at e
    · rename_i s1 h1
      rw [exec_mono h hk a _ _ h1]
      exact exec_mono h hk b _ _ e
    · rename_i hne
      rw [exec_mono h hk a _ _ e]
      obtain ⟨ex, s1⟩ := r
      cases ex with
      | normal => exact absurd e (hne s1)
      | exit _ => rfl
      | ret => rfl
  | .cond g a b, s, r, e => by
    simp only [exec] at *
    split at e
    · split at e
      · rename_i ht; rw [if_pos ht]; exact exec_mono h hk a _ _ e
      · rename_i ht; rw [if_neg ht]; exact exec_mono h hk b _ _ e
    · cases e
  | .block id c, s, r, e => by
    simp only [exec] at *
    split at e
    · rename_i j s1 h1
      rw [exec_mono h hk c _ _ h1]; exact e
    · rename_i hne
      rw [exec_mono h hk c _ _ e]
      obtain ⟨ex, s1⟩ := r
      cases ex with
      | exit j => exact absurd e (hne j s1)
      | normal => rfl
      | ret => rfl
  | .loop c, s, r, e => by
    simp only [exec] at *
    exact iter_mono (fun s r => exec_mono h hk c s r) k k' s r hk e
  | .exit id, s, r, e => e
  | .ret, s, r, e => e
  | .no, s, r, e => by cases e

theorem call_mono : ∀ {k k' : Nat}, k ≤ k' → Le (call X k) (call X k')
  | 0, _, _ => fun f a π H r e => by cases e
  | k + 1, 0, h => by omega
  | k + 1, k' + 1, h => by
    intro f a π H r e
    simp only [call] at *
    split at e
    · cases e
    · rename_i fd hfd
      have m : ∀ s r, exec X (call X k) k π fd.body s = some r → exec X (call X k') k' π fd.body s = some r := exec_mono (call_mono (by omega)) (by omega) fd.body
      split at e
      · rename_i s1 h1
        rw [m _ _ h1]; exact e
      · rename_i s1 h1
        rw [m _ _ h1]; exact e
      · cases e

theorem ans_mono {k k' : Nat} (h : k ≤ k') {f : Nat} {a : List AV} {r : AV} (e : ansA X (call X k) f a = some r) : ansA X (call X k') f a = some r := ansA_mono (call_mono h) e

end Go.Den
