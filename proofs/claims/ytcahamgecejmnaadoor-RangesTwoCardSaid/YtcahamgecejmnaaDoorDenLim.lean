/-
  The functional reading without rounds: what enough rounds tell. Its conditions: none.
-/
import Derived.Test.YtcahamgecejmnaaDoorDenMono
namespace Go.Den
open Go

def Mono {α : Type} (g : Nat → Option α) : Prop := ∀ k k' r, k ≤ k' → g k = some r → g k' = some r

open Classical in
noncomputable def lim {α : Type} (g : Nat → Option α) : Option α := if h : ∃ r k, ∀ k', k ≤ k' → g k' = some r then some h.choose else none

theorem lim_some {α : Type} {g : Nat → Option α} (hg : Mono g) {r : α} : lim g = some r ↔ ∃ k, g k = some r := by
  constructor
  · intro h
    unfold lim at h
    split at h
    · rename_i hx
      obtain rfl := Option.some.inj h
      obtain ⟨k, hk⟩ := hx.choose_spec
      exact ⟨k, hk k (Nat.le_refl _)⟩
    · cases h
  · rintro ⟨k, hk⟩
    have hx : ∃ r k, ∀ k', k ≤ k' → g k' = some r := ⟨r, k, fun k' h => hg k k' r h hk⟩
    unfold lim
    rw [dif_pos hx]
    obtain ⟨k2, hk2⟩ := hx.choose_spec
    have h1 := hg k (max k k2) r (Nat.le_max_left _ _) hk
    have h2 := hk2 (max k k2) (Nat.le_max_right _ _)
    rw [h1] at h2
    exact h2.symm

theorem lim_ext {α : Type} {g : Nat → Option α} (hg : Mono g) {v : Option α} (h : ∀ r, (∃ k, g k = some r) ↔ v = some r) : lim g = v := by
  cases hv : v with
  | some r => exact (lim_some hg).2 ((h r).2 hv)
  | none =>
    cases hl : lim g with
    | none => rfl
    | some r =>
      have := (h r).1 ((lim_some hg).1 hl)
      rw [hv] at this; cases this

theorem lim_congr {α : Type} {g g' : Nat → Option α} (h : ∀ k, g k = g' k) : lim g = lim g' := by rw [funext h]
theorem mono_const {α : Type} (v : Option α) : Mono (fun _ => v) := fun _ _ _ _ h => h
theorem lim_const {α : Type} (v : Option α) : lim (fun _ => v) = v := lim_ext (mono_const v) fun _ => ⟨fun ⟨_, h⟩ => h, fun h => ⟨0, h⟩⟩

theorem mono_bind {α β : Type} {g : Nat → Option α} {h : Nat → α → Option β} (hg : Mono g) (hh : ∀ a, Mono (h · a)) : Mono (fun k => (g k).bind (h k)) := by
  intro k k' r hk e
  simp only [Option.bind_eq_some_iff] at e ⊢
  obtain ⟨a, h1, h2⟩ := e
  exact ⟨a, hg k k' a hk h1, hh a k k' r hk h2⟩

theorem lim_bind {α β : Type} {g : Nat → Option α} {h : Nat → α → Option β} (hg : Mono g) (hh : ∀ a, Mono (h · a)) : lim (fun k => (g k).bind (h k)) = (lim g).bind fun a => lim (h · a) := by
  refine lim_ext (mono_bind hg hh) fun r => ?_
  simp only [Option.bind_eq_some_iff]
  constructor
  · rintro ⟨k, a, h1, h2⟩
    exact ⟨a, (lim_some hg).2 ⟨k, h1⟩, (lim_some (hh a)).2 ⟨k, h2⟩⟩
  · rintro ⟨a, h1, h2⟩
    obtain ⟨k1, h1⟩ := (lim_some hg).1 h1
    obtain ⟨k2, h2⟩ := (lim_some (hh a)).1 h2
    exact ⟨max k1 k2, a, hg _ _ _ (Nat.le_max_left _ _) h1, hh a _ _ _ (Nat.le_max_right _ _) h2⟩

theorem lim_shift {α : Type} {g : Nat → Option α} (hg : Mono g) : lim (fun k => g (k + 1)) = lim g := by
  refine lim_ext (fun k k' r hk h => hg _ _ r (Nat.succ_le_succ hk) h) fun r => ?_
  rw [lim_some hg]
  exact ⟨fun ⟨k, h⟩ => ⟨k + 1, h⟩, fun ⟨k, h⟩ => ⟨k, hg k (k + 1) r (Nat.le_succ k) h⟩⟩

/-- Rounds of two kinds at once. -/
theorem lim_two {α : Type} {g : Nat → Nat → Option α} (h1 : ∀ n, Mono (g · n)) (h2 : ∀ k, Mono (g k)) : lim (fun k => g k k) = lim fun n => lim (g · n) := by
  have hd : Mono (fun k => g k k) := fun k k' r hk e => h2 k' k k' r hk (h1 k k k' r hk e)
  have ho : Mono (fun n => lim (g · n)) := by
    intro n n' r hn e
    obtain ⟨k, hk⟩ := (lim_some (h1 n)).1 e
    exact (lim_some (h1 n')).2 ⟨k, h2 k n n' r hn hk⟩
  refine lim_ext hd fun r => ?_
  rw [lim_some ho]
  constructor
  · rintro ⟨k, hk⟩
    exact ⟨k, (lim_some (h1 k)).2 ⟨k, hk⟩⟩
  · rintro ⟨n, hn⟩
    obtain ⟨k, hk⟩ := (lim_some (h1 n)).1 hn
    exact ⟨max k n, h2 _ n _ r (Nat.le_max_right _ _) (h1 n k _ r (Nat.le_max_left _ _) hk)⟩

section
variable (X : Ctx)

/-- What a call answers. -/
noncomputable def goL : Go1 := fun f a π H => lim fun k => call X k f a π H
noncomputable def ansL (f : Nat) (a : List AV) : Option AV := ansA X (goL X) f a

variable {X}
theorem mono_call (f : Nat) (a : List AV) (π : Key) (H : Heap) : Mono (fun k => call X k f a π H) := fun _ _ _ hk e => call_mono hk _ _ _ _ _ e

theorem lim_ansA (f : Nat) (a : List AV) : lim (fun k => ansA X (call X k) f a) = ansL X f a := by
  unfold ansL ansA
  cases X.prim f with
  | some p => exact lim_const _
  | none =>
    have e : ∀ go : Go1, (match go f a [] Heap.none with | some (r, H1) => snap H1 r | none => none) = (go f a [] Heap.none).bind fun p => snap p.2 p.1 := by
      intro go; cases go f a [] Heap.none <;> rfl
    refine (lim_congr fun k => e (call X k)).trans ?_
    rw [lim_bind (mono_call f a [] Heap.none) (h := fun _ p => snap p.2 p.1) (fun p => mono_const _)]
    simp only [lim_const]
    exact (e (goL X)).symm
theorem mono_ansA (f : Nat) (a : List AV) : Mono (fun k => ansA X (call X k) f a) := fun _ _ _ hk e => ansA_mono (call_mono hk) e

theorem lim_callArgs (f : Nat) (a : List AV) (π : Key) (H : Heap) : lim (fun k => callArgs X (call X k) f a π H) = callArgs X (goL X) f a π H := by
  unfold callArgs
  cases hw : X.wprim f with
  | some q => exact lim_const _
  | none =>
  simp only
  unfold callArgs0
  split
  · rfl
  · split
    · rename_i as has
      have e : ∀ o : Option AV, (match o with | some r => if r.flat = true then some (r, H) else some (r, killL H a) | none => none) = o.bind fun r => if r.flat = true then some (r, H) else some (r, killL H a) := by
        intro o; cases o <;> rfl
      refine (lim_congr fun k => e (ansA X (call X k) f as)).trans ?_
      rw [lim_bind (mono_ansA f as) (h := fun _ r => if r.flat = true then some (r, H) else some (r, killL H a)) (fun p => mono_const _), lim_ansA]
      simp only [lim_const]
      exact (e _).symm
    · rfl
theorem mono_callArgs (f : Nat) (a : List AV) (π : Key) (H : Heap) : Mono (fun k => callArgs X (call X k) f a π H) := fun _ _ _ hk e => callArgs_mono (call_mono hk) e

theorem lim_callQ (f : Nat) (a : List AV) (H : Heap) : lim (fun k => callQ X (call X k) f a H) = callQ X (goL X) f a H := by
  unfold callQ
  cases hw : X.wprim f with
  | some q => exact lim_const _
  | none =>
  simp only
  unfold callQ0
  split
  · exact lim_const _
  · split
    · rename_i as has
      have e : ∀ o : Option AV, (match o with | some r => if (r.flat || AV.pureL a) = true then some r else none | none => none) = o.bind fun r => if (r.flat || AV.pureL a) = true then some r else none := by
        intro o; cases o <;> rfl
      refine (lim_congr fun k => e (ansA X (call X k) f as)).trans ?_
      rw [lim_bind (mono_ansA f as) (h := fun _ r => if (r.flat || AV.pureL a) = true then some r else none) (fun p => mono_const _), lim_ansA]
      simp only [lim_const]
      exact (e _).symm
    · exact lim_const _

theorem lim_stepI (π : Key) (d : Option Nat) (e : Env) (H : Heap) (i : I) : lim (fun k => stepI X (call X k) π d e H i) = stepI X (goL X) π d e H i := by
  cases i with
  | call f as =>
    simp only [stepI]
    split
    · exact lim_callArgs _ _ _ _
    · exact lim_const _
  | _ => exact lim_const _
theorem mono_stepI (π : Key) (d : Option Nat) (e : Env) (H : Heap) (i : I) : Mono (fun k => stepI X (call X k) π d e H i) := fun _ _ _ hk e => stepI_mono (call_mono hk) e
theorem lim_stepQ (π : Key) (d : Option Nat) (e : Env) (H : Heap) (i : I) : lim (fun k => stepQ X (call X k) π d e H i) = stepQ X (goL X) π d e H i := by
  cases i with
  | call f as =>
    simp only [stepQ]
    split
    · exact lim_callQ _ _ _
    · exact lim_const _
  | box _ _ | store _ _ _ | append _ _ _ _ | buildSlice _ _ _ _ => exact lim_const _
  | _ =>
    refine (lim_congr fun k => ?_).trans (lim_const _)
    rfl
theorem mono_stepQ (π : Key) (d : Option Nat) (e : Env) (H : Heap) (i : I) : Mono (fun k => stepQ X (call X k) π d e H i) := fun _ _ _ hk e => stepQ_mono (call_mono hk) e
end

/-! ### the steps -/
section
variable {X : Ctx} {π : Key} {α : Type} {F : Env → Heap → Option α} {K : List Fr} {e : Env} {H : Heap}

theorem runK_mono {go go' : Go1} (h : Le go go') {k k' : Nat} (hk : k ≤ k') : ∀ (K : List Fr) (r r' : Option (Ex × St)), (∀ p, r = some p → r' = some p) → ∀ v, runK X go k π F K r = some v → runK X go' k' π F K r' = some v
  | K, none, r', _, v, e => by rw [runK_none] at e; cases e
  | K, some p, r', hr, v, e => by
    rw [hr p rfl]
    clear hr r'
    obtain ⟨ex, s⟩ := p
    induction K generalizing ex s with
    | nil => cases ex <;> exact e
    | cons f K ih =>
      have go_on : ∀ (r r' : Option (Ex × St)), (∀ p, r = some p → r' = some p) → runK X go k π F K r = some v → runK X go' k' π F K r' = some v := by
        intro r r' hr e
        cases r with
        | none => rw [runK_none] at e; cases e
        | some p => rw [hr p rfl]; obtain ⟨ex, s⟩ := p; exact ih ex s e
      cases ex with
      | normal =>
        cases f with
        | c c => simp only [runK] at e ⊢; exact go_on _ _ (fun p hp => exec_mono h hk c s p hp) e
        | ops l => simp only [runK] at e ⊢; exact go_on _ _ (fun p hp => exec_mono h hk (.reg l) s p hp) e
        | q l => simp only [runK] at e ⊢; exact go_on _ _ (fun p hp => exec_mono h hk (.dreg l) s p hp) e
        | blk id => simp only [runK] at e ⊢; exact go_on _ _ (fun p hp => hp) e
        | er r n T A =>
          simp only [runK] at e ⊢
          refine go_on _ _ (fun p hp => ?_) e
          split at hp
          · rename_i s1 h1
            rw [doneE_mono (fun p => runE_mono h _ _ _ _ _ _ p) h1]; exact hp
          · cases hp
        | it c n => simp only [runK] at e ⊢; exact go_on _ _ (fun p hp => iter_mono (fun s r => exec_mono h hk c s r) n n s p (Nat.le_refl _) hp) e
      | exit j =>
        cases f with
        | blk id => simp only [runK] at e ⊢; exact go_on _ _ (fun p hp => hp) e
        | _ => simp only [runK] at e ⊢; exact go_on _ _ (fun p hp => hp) e
      | ret => rw [runK_ret] at e ⊢; exact e

variable (X π F K e H)
noncomputable def runL : Option α := lim fun k => run X (call X k) k π F K e H
noncomputable def outL (id : Nat) : Option α := lim fun k => outR X (call X k) k π F id K e H
noncomputable def condL (v : AV) (a b : C) : Option α := match v with
  | .bool t => if t then runL X π F (.c a :: K) e H else runL X π F (.c b :: K) e H
  | _ => none
noncomputable def stepL (r : Option (AV × Heap)) (d : Option Nat) (fr : Fr) : Option α := match r with
  | some (v, H) => runL X π F (fr :: K) (e.put d v) H
  | none => none
noncomputable def stepLS (r : Option AV) (d : Option Nat) (fr : Fr) : Option α := match r with
  | some v => runL X π F (fr :: K) (e.put d v) H
  | none => none
noncomputable def guardL (v : AV) (b : Bool) (d : Option Nat) (i : I) (l : List Ins) : Option α := match v with
  | .bool x => if x = b then stepL X π F K e (stepI X (goL X) π d e H i) d (.ops l) else runL X π F (.ops l :: K) (e.put d .undef) H
  | .tup _ => runL X π F (.ops l :: K) (e.put d .undef) H
  | _ => none
noncomputable def guardLS (v : AV) (b : Bool) (d : Option Nat) (i : I) (l : List Ins) : Option α := match v with
  | .bool x => if x = b then stepLS X π F K e H (stepQ X (goL X) π d e H i) d (.q l) else runL X π F (.q l :: K) (e.put d .undef) H
  | .tup _ => runL X π F (.q l :: K) (e.put d .undef) H
  | _ => none
noncomputable def guardLE (v : AV) (b : Bool) (d : Option Nat) (i : I) (f : Bool) (fr : List Nat) (r : List EIns) (n : Nat) (T : LogT) (A : LogA) : Option α := match v with
  | .bool x => if x = b then runL X π F (.er (⟨⟨d, none, i⟩, f, fr⟩ :: r) n T A :: K) e H else runL X π F (.er r (n + 1) T A :: K) (e.put d .undef) H
  | .tup _ => runL X π F (.er r (n + 1) T A :: K) (e.put d .undef) H
  | _ => none
noncomputable def lastL (ok : Bool) : Option α := if ok = true then runL X π F K e H else none
variable {X π F K e H}

theorem mono_run : Mono (fun k => run X (call X k) k π F K e H) := fun _ _ r hk h => runK_mono (call_mono hk) hk K _ _ (fun _ hp => hp) r h
theorem mono_out {id : Nat} : Mono (fun k => outR X (call X k) k π F id K e H) := fun _ _ r hk h => runK_mono (call_mono hk) hk K _ _ (fun _ hp => hp) r h

theorem run_some {r : α} : runL X π F K e H = some r ↔ ∃ k, run X (call X k) k π F K e H = some r := lim_some mono_run

theorem l_nil : runL X π F [] e H = F e H := lim_const _
theorem l_seq {a b : C} : runL X π F (.c (.seq a b) :: K) e H = runL X π F (.c a :: .c b :: K) e H := by simp only [runL, run_seq]
theorem l_skip : runL X π F (.c .skip :: K) e H = runL X π F K e H := by simp only [runL, run_skip]
theorem l_reg {l : List Ins} : runL X π F (.c (.reg l) :: K) e H = runL X π F (.ops l :: K) e H := by simp only [runL, run_reg]
theorem l_dreg {l : List Ins} : runL X π F (.c (.dreg l) :: K) e H = runL X π F (.q l :: K) e H := by simp only [runL, run_dreg]
theorem l_cond {g : Opd} {a b : C} : runL X π F (.c (.cond g a b) :: K) e H = condL X π F K e H (g.ev X e) a b := by
  simp only [runL, run_cond, condL, condR]
  cases g.ev X e with
  | bool t => cases t <;> rfl
  | _ => exact lim_const _
theorem l_block {id : Nat} {c : C} : runL X π F (.c (.block id c) :: K) e H = runL X π F (.c c :: .blk id :: K) e H := by simp only [runL, run_block]
theorem l_exit {id : Nat} : runL X π F (.c (.exit id) :: K) e H = outL X π F K e H id := by simp only [runL, run_exit, outL]
theorem l_ret : runL X π F (.c .ret :: K) e H = F e H := by simp only [runL, run_ret]; exact lim_const _
theorem l_no : runL X π F (.c .no :: K) e H = none := by
  refine (lim_ext mono_run fun r => ?_)
  constructor
  · rintro ⟨k, h⟩
    simp only [run, runK, exec, runK_none] at h; cases h
  · intro h; cases h
theorem l_blk {id : Nat} : runL X π F (.blk id :: K) e H = runL X π F K e H := by simp only [runL, run_blk]
theorem lo_c {id : Nat} {c : C} : outL X π F (.c c :: K) e H id = outL X π F K e H id := by simp only [outL, out_c]
theorem lo_it {id : Nat} {c : C} {n : Nat} : outL X π F (.it c n :: K) e H id = outL X π F K e H id := by simp only [outL, out_it]
theorem lo_blk {id j : Nat} : outL X π F (.blk j :: K) e H id = if id = j then runL X π F K e H else outL X π F K e H id := by
  simp only [outL, out_blk]
  split
  · rfl
  · rfl
theorem l_ops_nil : runL X π F (.ops [] :: K) e H = runL X π F K e H := by simp only [runL, run_ops_nil]
theorem l_q_nil : runL X π F (.q [] :: K) e H = runL X π F K e H := by simp only [runL, run_q_nil]

theorem lim_step {d : Option Nat} {i : I} {l : List Ins} : lim (fun k => stepR X (call X k) k π F (stepI X (call X k) π d e H i) d l K e) = stepL X π F K e (stepI X (goL X) π d e H i) d (.ops l) := by
  have e1 : ∀ k, stepR X (call X k) k π F (stepI X (call X k) π d e H i) d l K e = (stepI X (call X k) π d e H i).bind fun p => run X (call X k) k π F (.ops l :: K) (e.put d p.1) p.2 := by
    intro k; cases stepI X (call X k) π d e H i <;> rfl
  simp only [e1]
  rw [lim_bind (mono_stepI π d e H i) (h := fun k p => run X (call X k) k π F (.ops l :: K) (e.put d p.1) p.2) (fun p => mono_run), lim_stepI]
  cases stepI X (goL X) π d e H i <;> rfl
theorem lim_stepS {d : Option Nat} {i : I} {l : List Ins} : lim (fun k => stepS X (call X k) k π F (stepQ X (call X k) π d e H i) d l K e H) = stepLS X π F K e H (stepQ X (goL X) π d e H i) d (.q l) := by
  have e1 : ∀ k, stepS X (call X k) k π F (stepQ X (call X k) π d e H i) d l K e H = (stepQ X (call X k) π d e H i).bind fun p => run X (call X k) k π F (.q l :: K) (e.put d p) H := by
    intro k; cases stepQ X (call X k) π d e H i <;> rfl
  simp only [e1]
  rw [lim_bind (mono_stepQ π d e H i) (h := fun k p => run X (call X k) k π F (.q l :: K) (e.put d p) H) (fun p => mono_run), lim_stepQ]
  cases stepQ X (goL X) π d e H i <;> rfl

theorem l_ops {d : Option Nat} {i : I} {l : List Ins} : runL X π F (.ops (⟨d, none, i⟩ :: l) :: K) e H = stepL X π F K e (stepI X (goL X) π d e H i) d (.ops l) := by
  simp only [runL, run_ops]; exact lim_step
theorem l_q {d : Option Nat} {i : I} {l : List Ins} : runL X π F (.q (⟨d, none, i⟩ :: l) :: K) e H = stepLS X π F K e H (stepQ X (goL X) π d e H i) d (.q l) := by
  simp only [runL, run_q]; exact lim_stepS
theorem l_guard {d : Option Nat} {t : Nat} {b : Bool} {i : I} {l : List Ins} : runL X π F (.ops (⟨d, some (some t, b), i⟩ :: l) :: K) e H = guardL X π F K e H (e t) b d i l := by
  simp only [runL, run_guard, guardL, guardR]
  cases e t with
  | bool x =>
    by_cases h : x = b
    · simp only [h, if_true]; exact lim_step
    · simp only [if_neg h]
  | tup _ => rfl
  | _ => exact lim_const _
theorem l_guardQ {d : Option Nat} {t : Nat} {b : Bool} {i : I} {l : List Ins} : runL X π F (.q (⟨d, some (some t, b), i⟩ :: l) :: K) e H = guardLS X π F K e H (e t) b d i l := by
  simp only [runL, run_guardQ, guardLS, guardS]
  cases e t with
  | bool x =>
    by_cases h : x = b
    · simp only [h, if_true]; exact lim_stepS
    · simp only [if_neg h]
  | tup _ => rfl
  | _ => exact lim_const _

theorem l_ereg {l : List EIns} : runL X π F (.c (.ereg l) :: K) e H = runL X π F (.er l 0 [] [] :: K) e H := by simp only [runL, run_ereg]
theorem l_er_nil {n : Nat} {T : LogT} {A : LogA} : runL X π F (.er [] n T A :: K) e H = lastL X π F K e H (apartE T A) := by
  simp only [runL, run_er_nil, lastL]
  split
  · rfl
  · exact lim_const _
theorem l_er_t {d : Option Nat} {i : I} {fr : List Nat} {r : List EIns} {n : Nat} {T : LogT} {A : LogA} : runL X π F (.er (⟨⟨d, none, i⟩, true, fr⟩ :: r) n T A :: K) e H = stepL X π F K e (stepI X (goL X) π d e H i) d (.er r (n + 1) T (logA n (changes X π d e i) A)) := by
  simp only [runL, run_er_t]
  have e1 : ∀ k, (match stepI X (call X k) π d e H i with | some (v, H') => run X (call X k) k π F (.er r (n + 1) T (logA n (changes X π d e i) A) :: K) (e.put d v) H' | none => none) = (stepI X (call X k) π d e H i).bind fun p => run X (call X k) k π F (.er r (n + 1) T (logA n (changes X π d e i) A) :: K) (e.put d p.1) p.2 := by
    intro k; cases stepI X (call X k) π d e H i <;> rfl
  refine (lim_congr e1).trans ?_
  rw [lim_bind (mono_stepI π d e H i) (h := fun k p => run X (call X k) k π F (.er r (n + 1) T (logA n (changes X π d e i) A) :: K) (e.put d p.1) p.2) (fun p => mono_run), lim_stepI]
  cases stepI X (goL X) π d e H i <;> rfl
theorem l_er_f {d : Option Nat} {i : I} {fr : List Nat} {r : List EIns} {n : Nat} {T : LogT} {A : LogA} : runL X π F (.er (⟨⟨d, none, i⟩, false, fr⟩ :: r) n T A :: K) e H = stepLS X π F K e H (stepQ X (goL X) π d e H i) d (.er r (n + 1) (logT fr (touches X e i) T) A) := by
  simp only [runL, run_er_f]
  have e1 : ∀ k, (match stepQ X (call X k) π d e H i with | some v => run X (call X k) k π F (.er r (n + 1) (logT fr (touches X e i) T) A :: K) (e.put d v) H | none => none) = (stepQ X (call X k) π d e H i).bind fun p => run X (call X k) k π F (.er r (n + 1) (logT fr (touches X e i) T) A :: K) (e.put d p) H := by
    intro k; cases stepQ X (call X k) π d e H i <;> rfl
  refine (lim_congr e1).trans ?_
  rw [lim_bind (mono_stepQ π d e H i) (h := fun k p => run X (call X k) k π F (.er r (n + 1) (logT fr (touches X e i) T) A :: K) (e.put d p) H) (fun p => mono_run), lim_stepQ]
  cases stepQ X (goL X) π d e H i <;> rfl
theorem l_er_guard {d : Option Nat} {t : Nat} {b : Bool} {i : I} {f : Bool} {fr : List Nat} {r : List EIns} {n : Nat} {T : LogT} {A : LogA} : runL X π F (.er (⟨⟨d, some (some t, b), i⟩, f, fr⟩ :: r) n T A :: K) e H = guardLE X π F K e H (e t) b d i f fr r n T A := by
  simp only [runL, run_er_guard, guardLE]
  cases e t with
  | bool x =>
    by_cases h : x = b
    · simp only [h, if_true]
    · simp only [if_neg h]
  | tup _ => rfl
  | _ => exact lim_const _

theorem lc_t {a b : C} : condL X π F K e H (.bool true) a b = runL X π F (.c a :: K) e H := rfl
theorem lc_f {a b : C} : condL X π F K e H (.bool false) a b = runL X π F (.c b :: K) e H := rfl
theorem ls_some {v : AV} {H' : Heap} {d : Option Nat} {l : Fr} : stepL X π F K e (some (v, H')) d l = runL X π F (l :: K) (e.put d v) H' := rfl
theorem ls_none {d : Option Nat} {l : Fr} : stepL X π F K e none d l = none := rfl
theorem lss_some {v : AV} {d : Option Nat} {l : Fr} : stepLS X π F K e H (some v) d l = runL X π F (l :: K) (e.put d v) H := rfl
theorem lss_none {d : Option Nat} {l : Fr} : stepLS X π F K e H none d l = none := rfl
theorem lg_tt {d : Option Nat} {i : I} {l : List Ins} : guardL X π F K e H (.bool true) true d i l = stepL X π F K e (stepI X (goL X) π d e H i) d (.ops l) := rfl
theorem lg_ff {d : Option Nat} {i : I} {l : List Ins} : guardL X π F K e H (.bool false) false d i l = stepL X π F K e (stepI X (goL X) π d e H i) d (.ops l) := rfl
theorem lg_tf {d : Option Nat} {i : I} {l : List Ins} : guardL X π F K e H (.bool true) false d i l = runL X π F (.ops l :: K) (e.put d .undef) H := rfl
theorem lg_ft {d : Option Nat} {i : I} {l : List Ins} : guardL X π F K e H (.bool false) true d i l = runL X π F (.ops l :: K) (e.put d .undef) H := rfl
theorem lg_u {b : Bool} {d : Option Nat} {i : I} {l : List Ins} : guardL X π F K e H .undef b d i l = runL X π F (.ops l :: K) (e.put d .undef) H := rfl
theorem lgs_tt {d : Option Nat} {i : I} {l : List Ins} : guardLS X π F K e H (.bool true) true d i l = stepLS X π F K e H (stepQ X (goL X) π d e H i) d (.q l) := rfl
theorem lgs_ff {d : Option Nat} {i : I} {l : List Ins} : guardLS X π F K e H (.bool false) false d i l = stepLS X π F K e H (stepQ X (goL X) π d e H i) d (.q l) := rfl
theorem lgs_tf {d : Option Nat} {i : I} {l : List Ins} : guardLS X π F K e H (.bool true) false d i l = runL X π F (.q l :: K) (e.put d .undef) H := rfl
theorem lgs_ft {d : Option Nat} {i : I} {l : List Ins} : guardLS X π F K e H (.bool false) true d i l = runL X π F (.q l :: K) (e.put d .undef) H := rfl
theorem lgs_u {b : Bool} {d : Option Nat} {i : I} {l : List Ins} : guardLS X π F K e H .undef b d i l = runL X π F (.q l :: K) (e.put d .undef) H := rfl

/-- A loop: as many rounds as it takes. -/
theorem l_loop {c : C} : runL X π F (.c (.loop c) :: K) e H = lim fun n => runL X π F (.it c n :: K) e H := by
  simp only [runL, run_loop]
  exact lim_two (g := fun k n => run X (call X k) k π F (.it c n :: K) e H) (fun n => mono_run) (fun k n n' r hn h => runK_mono (fun _ _ _ _ _ h => h) (Nat.le_refl k) K _ _ (fun p hp => iter_mono (fun _ _ h => h) n n' _ p hn hp) r h)
theorem l_it0 {c : C} : runL X π F (.it c 0 :: K) e H = none := by
  refine lim_ext mono_run fun r => ⟨?_, fun h => by cases h⟩
  rintro ⟨k, h⟩
  simp only [run, runK, iter, runK_none] at h; cases h
theorem l_it {c : C} {n : Nat} : runL X π F (.it c (n + 1) :: K) e H = runL X π F (.c c :: .it c n :: K) e H := by simp only [runL, run_it]

/-- What follows upon a call is read behind it. -/
theorem l_bind {β : Type} {G : α → Option β} : (runL X π F K e H).bind G = runL X π (fun e H => (F e H).bind G) K e H := by
  have h1 : ∀ (go : Go1) (k : Nat) (K : List Fr) (r : Option (Ex × St)), (runK X go k π F K r).bind G = runK X go k π (fun e H => (F e H).bind G) K r := by
    intro go k K
    induction K with
    | nil =>
      intro r
      cases r with
      | none => rfl
      | some p => obtain ⟨ex, s⟩ := p; cases ex <;> rfl
    | cons f K ih =>
      intro r
      cases r with
      | none => rw [runK_none, runK_none]; rfl
      | some p =>
        obtain ⟨ex, s⟩ := p
        cases ex with
        | normal => cases f <;> (simp only [runK]; exact ih _)
        | exit j => cases f <;> (simp only [runK]; exact ih _)
        | ret => rw [runK_ret, runK_ret]
  have := lim_bind (mono_run (X := X) (π := π) (F := F) (K := K) (e := e) (H := H)) (h := fun _ a => G a) (fun a => mono_const _)
  simp only [lim_const] at this
  unfold runL
  rw [← this]
  congr 1
  funext k
  exact h1 _ _ _ _
end

theorem goL_run {X : Ctx} {f : Nat} {args : List AV} {π : Key} {H : Heap} {fd : FD} (hc : X.code f = some fd) :
    goL X f args π H = runL X π (finH fd.results) [.c fd.body] (initEnv args) H := by
  unfold goL runL
  rw [← lim_shift (mono_call f args π H)]
  congr 1
  funext k
  exact call_run hc
theorem ansL_run {X : Ctx} {f : Nat} {args : List AV} {fd : FD} (hp : X.prim f = none) (hc : X.code f = some fd) :
    ansL X f args = runL X [] (finS fd.results) [.c fd.body] (initEnv args) Heap.none := by
  rw [← lim_ansA]
  unfold runL
  rw [← lim_shift (mono_ansA f args)]
  congr 1
  funext k
  exact ans_run hp hc
theorem ansL_of {X : Ctx} {k f : Nat} {args : List AV} {r : AV} (h : ansA X (call X k) f args = some r) : ansL X f args = some r := by
  rw [← lim_ansA]; exact (lim_some (mono_ansA f args)).2 ⟨k, h⟩
theorem ans_callL {X : Ctx} {f : Nat} {args : List AV} {b : Bool} (hp : X.prim f = none) (h : ansL X f args = some (.bool b)) : ∃ k H', call X k f args [] Heap.none = some (.bool b, H') := by
  rw [← lim_ansA] at h
  obtain ⟨k, h⟩ := (lim_some (mono_ansA f args)).1 h
  exact ⟨k, ans_call hp h⟩

/-! ### loops over plain states -/
inductive Step (S E : Type) where
  | next (s : S)
  | done (e : E)

def loopN {S E : Type} (body : S → Option (Step S E)) : Nat → S → Option E
  | 0, _ => none
  | n + 1, s => match body s with
    | some (.next s') => loopN body n s'
    | some (.done x) => some x
    | none => none
noncomputable def loopL {S E : Type} (body : S → Option (Step S E)) (s : S) : Option E := lim fun n => loopN body n s

theorem mono_loop {S E : Type} {body : S → Option (Step S E)} {s : S} : Mono (fun n => loopN body n s) := by
  intro n n' r hn h
  induction n generalizing n' s with
  | zero => cases h
  | succ n ih =>
    obtain ⟨m, rfl⟩ : ∃ m, n' = m + 1 := ⟨n' - 1, by omega⟩
    simp only [loopN] at h ⊢
    split at h
    · exact ih m (by omega) h
    · exact h
    · cases h
theorem loopL_eq {S E : Type} (body : S → Option (Step S E)) (s : S) : loopL body s = match body s with
    | some (.next s') => loopL body s'
    | some (.done x) => some x
    | none => none := by
  unfold loopL
  rw [← lim_shift mono_loop]
  simp only [loopN]
  cases body s with
  | none => exact lim_const _
  | some p => cases p with
    | next s' => rfl
    | done x => exact lim_const _
theorem loopL_next {S E : Type} {body : S → Option (Step S E)} {s s' : S} (h : body s = some (.next s')) : loopL body s = loopL body s' := by rw [loopL_eq, h]
theorem loopL_done {S E : Type} {body : S → Option (Step S E)} {s : S} {x : E} (h : body s = some (.done x)) : loopL body s = some x := by rw [loopL_eq, h]
theorem loopL_none {S E : Type} {body : S → Option (Step S E)} {s : S} (h : body s = none) : loopL body s = none := by rw [loopL_eq, h]

/-- One round of a loop, and what is read of it. -/
def Round {S E α : Type} (X : Ctx) (π : Key) (F : Env → Heap → Option α) (K : List Fr) (c : C) (body : S → Option (Step S E)) (R : S → Env → Heap → Prop) (fin : E → Option α) : Prop :=
  ∀ n s e H, R s e H → match body s with
    | none => runL X π F (.c c :: .it c n :: K) e H = none
    | some (.next s') => ∃ e' H', R s' e' H' ∧ runL X π F (.c c :: .it c n :: K) e H = runL X π F (.it c n :: K) e' H'
    | some (.done x) => runL X π F (.c c :: .it c n :: K) e H = fin x

theorem loop_rule {S E α : Type} {X : Ctx} {π : Key} {F : Env → Heap → Option α} {K : List Fr} {c : C} {body : S → Option (Step S E)} {R : S → Env → Heap → Prop} {fin : E → Option α}
    (hb : Round X π F K c body R fin) {s : S} {e : Env} {H : Heap} (h : R s e H) : runL X π F (.c (.loop c) :: K) e H = (loopL body s).bind fin := by
  have key : ∀ n s e H, R s e H → runL X π F (.it c n :: K) e H = (loopN body n s).bind fin := by
    intro n
    induction n with
    | zero => intro s e H _; rw [l_it0]; rfl
    | succ n ih =>
      intro s e H h
      have := hb n s e H h
      rw [l_it]
      simp only [loopN]
      cases hs : body s with
      | none => rw [hs] at this; rw [this]; rfl
      | some p =>
        rw [hs] at this
        cases p with
        | next s' =>
          obtain ⟨e', H', h1, h2⟩ := this
          simp only [h2]
          exact ih s' e' H' h1
        | done x => simp only [this]; rfl
  rw [l_loop]
  simp only [key _ s e H h]
  have := lim_bind (mono_loop (body := body) (s := s)) (h := fun _ x => fin x) (fun a => mono_const _)
  simp only [lim_const] at this
  rw [this]; rfl

end Go.Den
