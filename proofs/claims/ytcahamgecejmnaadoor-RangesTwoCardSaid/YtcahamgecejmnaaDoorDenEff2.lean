/-
  Regions whose order is drawn, with effects: what the reading tells is what comes, whatever order is drawn. Its conditions: chainOK, drawOK.
-/
import Derived.Test.YtcahamgecejmnaaDoorDenEff
namespace Go.Den
open Go
open Go.RowKit (Below)

variable {P : Program} {X : Ctx} {F : Nat → Prop} {B : Nat} {ι : Pos} {H : Heap} {w : World} {N : Nat → Prop}

/-! ### the same in two heaps -/
theorem live_same {H H' : Heap} {k : Key} {ver : Nat} (h : H' k = H k) : H'.live k ver = H.live k ver := by unfold Heap.live; rw [h]

mutual
theorem snap_same {H H' : Heap} : ∀ (x : AV), (∀ k ∈ x.keys, H' k = H k) → snap H' x = snap H x
  | .agg cs, h => by simp only [AV.keys] at h; simp only [snap]; rw [snapL_same cs h]
  | .tup cs, h => by simp only [AV.keys] at h; simp only [snap]; rw [snapL_same cs h]
  | .fn _ cs, h => by simp only [AV.keys] at h; simp only [snap]; rw [snapL_same cs h]
  | .iface _ v, h => by simp only [AV.keys] at h; simp only [snap]; rw [snap_same v h]
  | .own k ver _ _, h => by simp only [AV.keys, List.mem_singleton, forall_eq] at h; simp only [snap, frozen1, live_same h]
  | .ptr _ _ _ _, _ | .map _ _, _ => by simp [snap]
  | .bool _, _ | .int _ _, _ | .str _, _ | .sl _, _ | .zs _, _ | .rp _ _, _ | .nilp, _ | .nilfn, _ | .nilmap, _ | .nilif, _ | .junk, _ => by simp [snap]
theorem snapL_same {H H' : Heap} : ∀ (l : List AV), (∀ k ∈ AV.keysL l, H' k = H k) → snapL H' l = snapL H l
  | [], _ => by simp [snapL]
  | v :: r, h => by
    simp only [AV.keysL, List.mem_append] at h
    simp only [snapL]; rw [snap_same v (fun k hk => h k (.inl hk)), snapL_same r (fun k hk => h k (.inr hk))]
end

/-- What looks into blocks that are the same tells the same. -/
theorem stepQ_same {go : Go1'} {π : Key} {d : Option Nat} {e : Env} {i : I} {H H' : Heap} (hH : ∀ k ∈ touches X e i, H' k = H k) : stepQ X go π d e H' i = stepQ X go π d e H i := by
  have hv : ∀ (H : Heap) (o : Option AV), valueOf (withH H o) = o := fun H o => by cases o <;> rfl
  cases i with
  | load sz g a =>
    simp only [touches] at hH
    have e1 : elemAt H' (a.ev X e) = elemAt H (a.ev X e) := by
      cases hx : a.ev X e with
      | ptr k ver i j =>
        rw [hx] at hH
        simp only [AV.keys, List.mem_singleton, forall_eq] at hH
        simp only [elemAt, live_same hH]
      | _ => rfl
    simp only [stepQ, stepI, hv, loadA, e1]
  | call f as =>
    simp only [touches] at hH
    simp only [stepQ]
    split
    · rename_i fn caps hf
      rw [hf] at hH
      simp only [callQ, callQ0, snapL_same (H := H) _ hH]
    · rfl
  | indexAddr sz x y =>
    simp only [touches] at hH
    simp only [stepQ, stepI, hv]
    cases hx : x.ev X e with
    | own k ver off len =>
      rw [hx] at hH
      simp only [AV.keys, List.mem_singleton, forall_eq] at hH
      simp only [indexAddrA, live_same hH]
    | _ => simp only [indexAddrA]
  | slice sz x lo hi m =>
    simp only [touches] at hH
    cases m with
    | none =>
      simp only [stepQ, stepI, hv]
      cases hx : x.ev X e with
      | own k ver off len =>
        rw [hx] at hH
        simp only [AV.keys, List.mem_singleton, forall_eq] at hH
        simp only [sliceA, live_same hH]
      | _ => simp only [sliceA]
    | some m =>
      simp only [stepQ, stepI]
      split
      · rw [hv, hv]
      · rfl
  | build zero parts =>
    simp only [stepQ, stepI]
    split
    · rw [hv, hv]
    · rfl
  | buildSlice sz len zero parts => rfl
  | box _ _ => rfl
  | store _ _ _ => rfl
  | append _ _ _ _ => rfl
  | rng _ => rfl
  | next _ => rfl
  | mkmap => rfl
  | lookup _ _ _ _ _ => rfl
  | mapSet _ _ _ _ => rfl
  | mov _ => rfl
  | mkfn _ _ => rfl
  | mkiface _ _ => rfl
  | no => rfl
  | _ => simp only [stepQ, stepI, hv]

theorem set_other {H : Heap} {k k' : Key} {v : Nat × Option Blk} (h : k' ≠ k) : (H.set k v) k' = H k' := by simp only [Heap.set, if_neg h]

theorem storeA_other {sz : Nat} {a x : AV} {H H' : Heap} (h : storeA H sz a x = some H') : ∀ k, k ∉ a.keys → H' k = H k := by
  intro k hk
  cases a with
  | ptr k0 ver i j =>
    simp only [storeA] at h
    simp only [AV.keys, List.mem_singleton] at hk
    split at h
    · split at h
      · split at h
        · obtain rfl := Option.some.inj h
          exact set_other hk
        · cases h
      · cases h
    · cases h
  | _ => cases h
theorem mapSetA_other {q : MK} {m x v : AV} {H H' : Heap} (h : mapSetA H q m x v = some H') : ∀ k, k ∉ m.keys → H' k = H k := by
  intro k hk
  unfold mapSetA at h
  split at h
  · split at h
    · simp only [AV.keys, List.mem_singleton] at hk
      split at h
      · split at h
        · obtain rfl := Option.some.inj h
          exact set_other hk
        · obtain rfl := Option.some.inj h
          exact set_other hk
        · cases h
      · cases h
    · cases h
  · cases h
theorem nextA_other {x v : AV} {H H' : Heap} (h : nextA H x = some (v, H')) : ∀ k, k ∉ x.keys → H' k = H k := by
  intro k hk
  unfold nextA at h
  split at h
  · simp only [AV.keys, List.mem_singleton] at hk
    split at h
    · unfold nextB at h
      split at h
      · split at h
        · obtain ⟨_, rfl⟩ := Prod.mk.inj (Option.some.inj h)
          exact set_other hk
        · obtain ⟨_, rfl⟩ := Prod.mk.inj (Option.some.inj h)
          rfl
      · cases h
    · cases h
  · cases h
theorem appendA_other {π : Key} {d sz bytes : Nat} {x y v : AV} {H H' : Heap} (h : appendA π d sz bytes H x y = some (v, H')) : ∀ k, k ∉ (match x with | .own k _ _ _ => [k] | _ => [d :: π]) → H' k = H k := by
  intro k hk
  unfold appendA at h
  split at h
  · cases h
  · cases x with
    | zs nl =>
      simp only [List.mem_singleton] at hk
      simp only at h
      split at h
      · obtain ⟨_, rfl⟩ := Prod.mk.inj (Option.some.inj h); rfl
      · split at h
        · obtain ⟨_, rfl⟩ := Prod.mk.inj (Option.some.inj h)
          exact set_other hk
        · cases h
    | own k0 ver off len =>
      simp only [List.mem_singleton] at hk
      simp only at h
      split at h
      · split at h
        · obtain ⟨_, rfl⟩ := Prod.mk.inj (Option.some.inj h)
          exact set_other hk
        · cases h
      · cases h
    | _ => cases h

mutual
theorem snap_pure (H : Heap) : ∀ (x : AV), x.pure = true → ∃ y, snap H x = some y
  | .agg cs, h => by simp only [AV.pure] at h; obtain ⟨y, hy⟩ := snapL_pure H cs h; simp only [snap, hy]; exact ⟨_, rfl⟩
  | .tup cs, h => by simp only [AV.pure] at h; obtain ⟨y, hy⟩ := snapL_pure H cs h; simp only [snap, hy]; exact ⟨_, rfl⟩
  | .fn _ cs, h => by simp only [AV.pure] at h; obtain ⟨y, hy⟩ := snapL_pure H cs h; simp only [snap, hy]; exact ⟨_, rfl⟩
  | .iface _ v, h => by simp only [AV.pure] at h; obtain ⟨y, hy⟩ := snap_pure H v h; simp only [snap, hy]; exact ⟨_, rfl⟩
  | .own _ _ _ _, h | .ptr _ _ _ _, h | .map _ _, h => by simp [AV.pure] at h
  | .bool _, _ | .int _ _, _ | .str _, _ | .sl _, _ | .zs _, _ | .rp _ _, _ | .nilp, _ | .nilfn, _ | .nilmap, _ | .nilif, _ | .junk, _ => by simp [snap]
theorem snapL_pure (H : Heap) : ∀ (l : List AV), AV.pureL l = true → ∃ y, snapL H l = some y
  | [], _ => ⟨[], by simp [snapL]⟩
  | v :: r, h => by
    simp only [AV.pureL, Bool.and_eq_true] at h
    obtain ⟨y, hy⟩ := snap_pure H v h.1
    obtain ⟨z, hz⟩ := snapL_pure H r h.2
    simp only [snapL, hy, hz]; exact ⟨_, rfl⟩
end

/-- What an operation with an effect leaves alone. -/
theorem changes_ok {go : Go1'} {π : Key} {d : Option Nat} {e : Env} {i : I} {H H' : Heap} {v : AV} {ks : List Key} (h : stepI X go π d e H i = some (v, H')) (hc : changes X π d e i = some ks) : ∀ k, k ∉ ks → H' k = H k := by
  intro k hk
  cases i with
  | box sz x =>
    simp only [stepI] at h
    cases d with
    | none => cases h
    | some d =>
      obtain rfl := Option.some.inj hc
      simp only [boxA] at h
      split at h
      · obtain ⟨_, rfl⟩ := Prod.mk.inj (Option.some.inj h)
        exact set_other (by simpa using hk)
      · cases h
  | rng x =>
    simp only [stepI] at h
    unfold rngA at h
    split at h
    · cases d with
      | none => cases h
      | some d =>
        obtain rfl := Option.some.inj hc
        obtain ⟨_, rfl⟩ := Prod.mk.inj (Option.some.inj h)
        exact set_other (by simpa using hk)
    · cases h
  | mkmap =>
    simp only [stepI] at h
    cases d with
    | none => cases h
    | some d =>
      obtain rfl := Option.some.inj hc
      obtain ⟨_, rfl⟩ := Prod.mk.inj (Option.some.inj h)
      exact set_other (by simpa using hk)
  | store sz a x =>
    simp only [stepI] at h
    obtain rfl := Option.some.inj hc
    split at h
    · rename_i H1 h1
      obtain ⟨_, rfl⟩ := Prod.mk.inj (Option.some.inj h)
      exact storeA_other h1 k hk
    · cases h
  | append sz bytes x y =>
    simp only [stepI] at h
    cases d with
    | none => cases h
    | some d =>
      refine appendA_other h k ?_
      simp only [changes] at hc
      cases hx : x.ev X e <;> (rw [hx] at hc; obtain rfl := Option.some.inj hc; exact hk)
  | next x =>
    simp only [stepI] at h
    obtain rfl := Option.some.inj hc
    exact nextA_other h k hk
  | lookup q z ok m x =>
    simp only [stepI] at h
    cases ho : lookupA H q z ok (m.ev X e) (x.ev X e) with
    | none => rw [ho] at h; cases h
    | some o => rw [ho] at h; obtain ⟨_, rfl⟩ := Prod.mk.inj (Option.some.inj h); rfl
  | mapSet q m x v0 =>
    simp only [stepI] at h
    obtain rfl := Option.some.inj hc
    split at h
    · rename_i H1 h1
      obtain ⟨_, rfl⟩ := Prod.mk.inj (Option.some.inj h)
      exact mapSetA_other h1 k hk
    · cases h
  | call f args =>
    simp only [stepI] at h
    simp only [changes] at hc
    split at h
    · rename_i fn caps hf
      rw [hf] at hc
      simp only at hc
      split at hc
      · cases hc
      rename_i hwp
      split at hc
      · rename_i hp
        obtain ⟨as, has⟩ := snapL_pure H _ hp.2
        simp only [callArgs, hwp, callArgs0, hp.1, Bool.false_eq_true, if_false, has] at h
        split at h
        · split at h
          · obtain ⟨_, rfl⟩ := Prod.mk.inj (Option.some.inj h); rfl
          · obtain ⟨_, rfl⟩ := Prod.mk.inj (Option.some.inj h)
            rw [killL_pure H _ hp.2]
        · cases h
      · cases hc
    · cases h
  | _ => cases hc

/-! ### the run, place by place -/
def envAt : List Ins → List AV → Nat → Env → Env
  | _, _, 0, e => e
  | o :: r, v :: us, n + 1, e => envAt r us n (e.put o.dst v)
  | _, _, _ + 1, e => e
def heapAt (H : Heap) : List Heap → Nat → Heap
  | _, 0 => H
  | h :: hs, n + 1 => heapAt h hs n
  | [], _ + 1 => H

theorem envAt_zero {l : List Ins} {us : List AV} {e : Env} : envAt l us 0 e = e := by cases l <;> cases us <;> rfl
theorem heapAt_zero {H : Heap} {hs : List Heap} : heapAt H hs 0 = H := by cases hs <;> rfl

structure StepE (X : Ctx) (go : Go1') (π : Key) (ls : List Ins) (us : List AV) (hs : List Heap) (T : LogT) (A : LogA) (n : Nat) (e : Env) (H : Heap) (i : Nat) (x : EIns) : Prop where
  comes : ∃ b, wanted (envAt ls us i e) x.o.guard = some b ∧ (b = false → us.getD i .undef = .undef ∧ heapAt H hs (i + 1) = heapAt H hs i) ∧
    (b = true → (x.eff = true → stepI X go π x.o.dst (envAt ls us i e) (heapAt H hs i) x.o.op = some (us.getD i .undef, heapAt H hs (i + 1)) ∧
        (changes X π x.o.dst (envAt ls us i e) x.o.op = some [] ∨ (n + i, changes X π x.o.dst (envAt ls us i e) x.o.op) ∈ A)) ∧
      (x.eff = false → heapAt H hs (i + 1) = heapAt H hs i ∧ stepQ X go π x.o.dst (envAt ls us i e) (heapAt H hs i) x.o.op = some (us.getD i .undef) ∧
        (x.free = [] ∨ touches X (envAt ls us i e) x.o.op = [] ∨ (x.free, touches X (envAt ls us i e) x.o.op) ∈ T)))

theorem logT_more {fr : List Nat} {t : List Key} {T : LogT} {p : List Nat × List Key} (h : p ∈ T) : p ∈ logT fr t T := by
  unfold logT
  split
  · exact h
  · exact h
  · exact List.mem_cons_of_mem _ h
theorem logT_new (fr : List Nat) (t : List Key) (T : LogT) : fr = [] ∨ t = [] ∨ (fr, t) ∈ logT fr t T := by
  unfold logT
  split
  · exact .inl rfl
  · exact .inr (.inl rfl)
  · exact .inr (.inr List.mem_cons_self)
theorem logA_more {n : Nat} {c : Option (List Key)} {A : LogA} {p : Nat × Option (List Key)} (h : p ∈ A) : p ∈ logA n c A := by
  unfold logA
  split
  · exact h
  · exact List.mem_cons_of_mem _ h
  · exact List.mem_cons_of_mem _ h
theorem logA_new (n : Nat) (c : Option (List Key)) (A : LogA) : c = some [] ∨ (n, c) ∈ logA n c A := by
  unfold logA
  split
  · exact .inl rfl
  · exact .inr List.mem_cons_self
  · exact .inr List.mem_cons_self

theorem runE_vals {go : Go1'} {π : Key} : ∀ (r : List EIns) (n : Nat) (e : Env) (H : Heap) (T : LogT) (A : LogA) (s : St) (T' : LogT) (A' : LogA), runE X go π r n e H T A = some (s, T', A') →
    ∃ (us : List AV) (hs : List Heap), us.length = r.length ∧ hs.length = r.length ∧ s.env = envAt (r.map (·.o)) us r.length e ∧ s.H = heapAt H hs r.length ∧ (∀ p ∈ T, p ∈ T') ∧ (∀ p ∈ A, p ∈ A') ∧
      ∀ (i : Nat) (x : EIns), r[i]? = some x → StepE X go π (r.map (·.o)) us hs T' A' n e H i x
  | [], n, e, H, T, A, s, T', A', h => by
    obtain ⟨rfl, h2⟩ := Prod.mk.inj (Option.some.inj h)
    obtain ⟨rfl, rfl⟩ := Prod.mk.inj h2
    exact ⟨[], [], rfl, rfl, rfl, rfl, fun _ h => h, fun _ h => h, fun i x hx => by simp at hx⟩
  | x :: r, n, e, H, T, A, s, T', A', h => by
    have next : ∀ (v : AV) (H1 : Heap) (T1 : LogT) (A1 : LogA), runE X go π r (n + 1) (e.put x.o.dst v) H1 T1 A1 = some (s, T', A') → (∀ p ∈ T, p ∈ T1) → (∀ p ∈ A, p ∈ A1) →
        ((∀ p ∈ T1, p ∈ T') → (∀ p ∈ A1, p ∈ A') → ∃ b, wanted e x.o.guard = some b ∧ (b = false → v = .undef ∧ H1 = H) ∧
          (b = true → (x.eff = true → stepI X go π x.o.dst e H x.o.op = some (v, H1) ∧ (changes X π x.o.dst e x.o.op = some [] ∨ (n, changes X π x.o.dst e x.o.op) ∈ A')) ∧
            (x.eff = false → H1 = H ∧ stepQ X go π x.o.dst e H x.o.op = some v ∧ (x.free = [] ∨ touches X e x.o.op = [] ∨ (x.free, touches X e x.o.op) ∈ T')))) →
        ∃ (us : List AV) (hs : List Heap), us.length = (x :: r).length ∧ hs.length = (x :: r).length ∧ s.env = envAt ((x :: r).map (·.o)) us (x :: r).length e ∧ s.H = heapAt H hs (x :: r).length ∧ (∀ p ∈ T, p ∈ T') ∧ (∀ p ∈ A, p ∈ A') ∧
          ∀ (i : Nat) (y : EIns), (x :: r)[i]? = some y → StepE X go π ((x :: r).map (·.o)) us hs T' A' n e H i y := by
      intro v H1 T1 A1 h1 hT hA hstep
      obtain ⟨us, hs, q1, q2, q3, q4, q5, q6, q7⟩ := runE_vals r (n + 1) (e.put x.o.dst v) H1 T1 A1 s T' A' h1
      refine ⟨v :: us, H1 :: hs, by simp [q1], by simp [q2], ?_, ?_, fun p hp => q5 p (hT p hp), fun p hp => q6 p (hA p hp), fun i y hy => ?_⟩
      · simpa [envAt] using q3
      · simpa [heapAt] using q4
      · cases i with
        | zero =>
          obtain rfl := Option.some.inj (show some x = some y by simpa using hy)
          refine ⟨?_⟩
          obtain ⟨b, g1, g2, g3⟩ := hstep q5 q6
          refine ⟨b, by rw [envAt_zero]; exact g1, fun hb => ?_, fun hb => ⟨fun he => ?_, fun he => ?_⟩⟩
          · obtain ⟨rfl, rfl⟩ := g2 hb
            exact ⟨rfl, by simp only [heapAt, heapAt_zero]⟩
          · obtain ⟨k1, k2⟩ := (g3 hb).1 he
            refine ⟨?_, ?_⟩
            · simp only [envAt_zero, heapAt, heapAt_zero]; exact k1
            · simp only [envAt_zero, Nat.add_zero]; exact k2
          · obtain ⟨k1, k2, k3⟩ := (g3 hb).2 he
            refine ⟨?_, ?_, ?_⟩
            · simp only [heapAt, heapAt_zero]; exact k1
            · simp only [envAt_zero, heapAt_zero]; exact k2
            · simp only [envAt_zero]; exact k3
        | succ i =>
          obtain ⟨q⟩ := q7 i y (by simpa using hy)
          refine ⟨?_⟩
          have e1 : n + (i + 1) = n + 1 + i := by omega
          rw [e1]
          exact q
    simp only [runE] at h
    split at h
    · rename_i hw
      split at h
      · rename_i he
        split at h
        · rename_i v H1 hst
          exact next v H1 T _ h (fun _ hp => hp) (fun _ hp => logA_more hp) (fun _ h2 => ⟨true, hw, fun hb => (by cases hb), fun _ => ⟨fun _ => ⟨hst, (logA_new n _ A).imp id (h2 _)⟩, fun hf => (by rw [he] at hf; cases hf)⟩⟩)
        · cases h
      · rename_i he
        split at h
        · rename_i v hst
          exact next v H _ A h (fun _ hp => logT_more hp) (fun _ hp => hp) (fun h1 _ => ⟨true, hw, fun hb => (by cases hb), fun _ => ⟨fun hf => absurd hf he, fun _ => ⟨rfl, hst, (logT_new x.free _ T).imp id (Or.imp id (h1 _))⟩⟩⟩)
        · cases h
    · rename_i hw
      exact next .undef H T A h (fun _ hp => hp) (fun _ hp => hp) (fun _ _ => ⟨false, hw, fun _ => ⟨rfl, rfl⟩, fun hb => (by cases hb)⟩)
    · cases h

theorem envAt_succ : ∀ {l : List Ins} {us : List AV} {i : Nat} {o : Ins} {e : Env}, us.length = l.length → l[i]? = some o → envAt l us (i + 1) e = (envAt l us i e).put o.dst (us.getD i .undef)
  | [], us, i, o, e, _, h => by simp at h
  | o' :: r, [], i, o, e, hl, h => by simp at hl
  | o' :: r, v :: us, 0, o, e, hl, h => by
    obtain rfl := Option.some.inj (show some o' = some o by simpa using h)
    simp only [envAt, envAt_zero, List.getD_cons_zero]
  | o' :: r, v :: us, i + 1, o, e, hl, h => by
    have := envAt_succ (us := us) (e := e.put o'.dst v) (by simpa using hl) (show r[i]? = some o by simpa using h)
    simpa [envAt] using this

theorem envAt_mix {l : List Ins} (hl : Apart l) {us : List AV} (hus : us.length = l.length) {e : Env} : ∀ {i : Nat}, i ≤ l.length → envAt l us i e = mix l us (fun j => decide (j < i)) e
  | 0, _ => by
    rw [envAt_zero]
    funext t
    simp only [mix]
    split <;> simp
  | i + 1, hi => by
    have ho : l[i]? = some l[i] := List.getElem?_eq_getElem (by omega)
    rw [envAt_succ hus ho, envAt_mix hl hus (by omega), mix_put hl ho _ rfl]
    congr 1
    funext j
    rw [Bool.eq_iff_iff]
    simp only [Bool.or_eq_true, beq_iff_eq, decide_eq_true_eq]
    omega

theorem annot_get {l : List Ins} {ps : List (List Nat)} {c : Bool} {i : Nat} {o : Ins} (h : l[i]? = some o) : (annot l ps c)[i]? = some ⟨o, effAt l c i, freeOf l ps c i⟩ := by
  have hlt := (List.getElem?_eq_some_iff.1 h).1
  have h' : l[i] = o := (List.getElem?_eq_some_iff.1 h).2
  simp only [annot, List.getElem?_map, List.getElem?_zipIdx, h, Option.map_some, Nat.zero_add, effAt]
theorem annot_map {l : List Ins} {ps : List (List Nat)} {c : Bool} : (annot l ps c).map (·.o) = l := by
  simp only [annot, List.map_map]
  have : ((fun x => x.o) ∘ fun p : Ins × Nat => (⟨p.1, isEffC c p.1.op, freeOf l ps c p.2⟩ : EIns)) = Prod.fst := rfl
  rw [this, List.zipIdx_map_fst]
theorem annot_length {l : List Ins} {ps : List (List Nat)} {c : Bool} : (annot l ps c).length = l.length := by simp [annot]

theorem apart_at {T : LogT} {A : LogA} (h : apartE T A = true) {fr : List Nat} {t : List Key} {n : Nat} {c : Option (List Key)} (hT : (fr, t) ∈ T) (hA : (n, c) ∈ A) (hn : n ∈ fr) : ∃ ks, c = some ks ∧ ∀ k ∈ t, k ∉ ks := by
  unfold apartE at h
  have h1 := List.all_eq_true.1 (List.all_eq_true.1 h _ hT) _ hA
  simp only [Bool.or_eq_true, Bool.not_eq_true'] at h1
  rcases h1 with h1 | h1
  · have : (fr.any fun m => decide (m = n)) = true := List.any_eq_true.2 ⟨n, hn, by simp⟩
    rw [this] at h1; cases h1
  · cases c with
    | none => cases h1
    | some ks =>
      refine ⟨ks, rfl, fun k hk hks => ?_⟩
      simp only [apartK, List.all_eq_true] at h1
      have := h1 k hk k hks
      simp at this

theorem eff_data {go : Go1'} {π : Key} {l : List Ins} {after : Nat → List Nat} {c : Bool} (hD : DrawFacts l after) (hC : chainOK l (ancs after l.length) c = true) {e0 : Env} {H0 : Heap} {s : St} (h : doneE (runE X go π (annot l (ancs after l.length) c) 0 e0 H0 [] []) = some s) :
    ∃ (us : List AV) (Hs : Nat → Heap), EData X go π l (fun i => (ancs after l.length).getD i []) e0 s.env us (effAt l c) Hs ∧ Hs 0 = H0 ∧ Hs l.length = s.H := by
  unfold doneE at h
  split at h
  · rename_i s1 T A hr
    split at h
    · rename_i hap
      obtain rfl := Option.some.inj h
      obtain ⟨us, hs, q1, q2, q3, q4, -, -, q7⟩ := runE_vals _ _ _ _ _ _ _ _ _ hr
      rw [annot_length] at q1 q2 q3 q4
      rw [annot_map] at q3 q7
      have step : ∀ (i : Nat) (o : Ins), l[i]? = some o → StepE X go π l us hs T A 0 e0 H0 i ⟨o, effAt l c i, freeOf l (ancs after l.length) c i⟩ := fun i o ho => q7 i _ (annot_get ho)
      have hmix : ∀ i, i ≤ l.length → envAt l us i e0 = mix l us (fun j => decide (j < i)) e0 := fun i hi => envAt_mix hD.apart q1 hi
      have hanc : ∀ i j, i < l.length → j ∈ (ancs after l.length).getD i [] → j < i := by
        intro i j hi hj
        rw [ancs_get after hi] at hj
        exact List.mem_range.1 (List.mem_filter.1 hj).1
      have still : ∀ (i : Nat) (o : Ins), l[i]? = some o → effAt l c i = false → heapAt H0 hs (i + 1) = heapAt H0 hs i := by
        intro i o ho he
        obtain ⟨b, g1, g2, g3⟩ := (step i o ho).comes
        cases b with
        | true => exact ((g3 rfl).2 he).1
        | false => exact (g2 rfl).2
      refine ⟨us, heapAt H0 hs, ⟨?_, still, ?_, ?_⟩, heapAt_zero, q4.symm⟩
      · rw [q3]; exact hmix _ (Nat.le_refl _)
      · intro i j hi hj he he'
        unfold chainOK at hC
        have h1 := List.all_eq_true.1 hC i (List.mem_range.2 hi)
        simp only [he, Bool.not_true, Bool.false_or] at h1
        have h2 := List.all_eq_true.1 h1 j (List.mem_range.2 hj)
        simp only [he', Bool.not_true, Bool.false_or, List.contains_eq_mem, decide_eq_true_eq] at h2
        exact h2
      · intro i o ho
        have hi := (List.getElem?_eq_some_iff.1 ho).1
        obtain ⟨b, g1, g2, g3⟩ := (step i o ho).comes
        rw [hmix i (by omega)] at g1 g3
        refine ⟨b, g1, g2, fun hb => ⟨fun he => ((g3 hb).1 he).1, fun he p hp hcons => ?_⟩⟩
        obtain ⟨k1, k2, k3⟩ := (g3 hb).2 he
        refine (stepQ_same (X := X) (H := heapAt H0 hs i) (fun k hk => ?_)).trans k2
        have hfree : ∀ j, j < l.length → effAt l c j = true → j ∉ (ancs after l.length).getD i [] → i ∉ (ancs after l.length).getD j [] → j ∈ freeOf l (ancs after l.length) c i := by
          intro j hj hej h1 h2
          unfold freeOf
          rw [he]
          simp only [Bool.false_eq_true, if_false, List.mem_filter, List.mem_range, hej, Bool.true_and, Bool.and_eq_true, Bool.not_eq_true', List.contains_eq_mem, decide_eq_false_iff_not]
          exact ⟨hj, h1, h2⟩
        have one : ∀ j, j < l.length → (effAt l c j = true → j ∈ freeOf l (ancs after l.length) c i) → heapAt H0 hs (j + 1) k = heapAt H0 hs j k := by
          intro j hj hf
          have hoj : l[j]? = some l[j] := List.getElem?_eq_getElem hj
          cases hej : effAt l c j with
          | false => rw [still j _ hoj hej]
          | true =>
            obtain ⟨b', g1', g2', g3'⟩ := (step j _ hoj).comes
            cases b' with
            | false => rw [(g2' rfl).2]
            | true =>
              obtain ⟨m1, m2⟩ := (g3' rfl).1 hej
              have hjf := hf hej
              rcases m2 with m2 | m2
              · exact changes_ok m1 m2 k (by simp)
              · rcases k3 with k3 | k3 | k3
                · simp only at k3; rw [k3] at hjf; cases hjf
                · rw [k3] at hk; cases hk
                · obtain ⟨ks, e1, e2⟩ := apart_at hap k3 m2 (by simpa using hjf)
                  exact changes_ok m1 e1 k (e2 k hk)
        have span : ∀ a b, a ≤ b → b ≤ l.length → (∀ j, a ≤ j → j < b → effAt l c j = true → j ∈ freeOf l (ancs after l.length) c i) → heapAt H0 hs b k = heapAt H0 hs a k := by
          intro a b hab
          induction b with
          | zero => intro _ _; have : a = 0 := by omega
                    rw [this]
          | succ b ih =>
            intro hb hf
            by_cases hae : a = b + 1
            · rw [hae]
            · rw [one b (by omega) (hf b (by omega) (by omega))]
              exact ih (by omega) (by omega) (fun j h1 h2 => hf j h1 (by omega))
        rcases Nat.le_total p i with hpi | hpi
        · refine (span p i hpi (by omega) (fun j h1 h2 hej => hfree j (by omega) hej (fun hm => ?_) (fun hm => ?_))).symm
          · have := (hcons j (by omega) hej).1 hm; omega
          · have := hanc j i (by omega) hm; omega
        · refine span i p hpi hp (fun j h1 h2 hej => hfree j (by omega) hej (fun hm => ?_) (fun hm => ?_))
          · have := hanc i j hi hm; omega
          · have := (hcons j (by omega) hej).2 hm; omega
    · cases h
  · cases h

theorem eff_says (hX : CtxOK P X) {go : Go1'} (hgo : GoSound P X go) {π : Key} {nt : Nat} {ops : Array Oper} {Q : Exit → Act → World → Prop} {l : List Ins} {c : Bool}
    (hl : trOps P nt ops ops.toList = some l) (hD : drawOK l (binding ops) = true) (hC : chainOK l (ancs (binding ops) l.length) c = true) {s s1 : St} (h : doneE (runE X go π (annot l (ancs (binding ops) l.length) c) 0 s.env s.H [] []) = some s1)
    {a : Act} {w : World} (hS : SR X F B ι s.H w) (hF : FR F ι s.H w s.env a nt)
    (hQ : ∀ a' w' ι', SR X F B ι' s1.H w' → Adv ι s.H w ι' s1.H w' → FR F ι' s1.H w' s1.env a' nt → Q .normal a' w') :
    wpAny P .any ops Q ops.size (Array.replicate ops.size false) a w := by
  obtain ⟨us, Hs, hE, h0, h1⟩ := eff_data (drawOK_facts hD) hC h
  rw [← h0] at hS hF
  refine edraw_says hX hgo hl hD hE hS hF (fun a' w' ι' p1 p2 p3 => ?_)
  rw [h1] at p1 p2 p3
  rw [h0] at p2
  exact hQ a' w' ι' p1 p2 p3
end Go.Den
