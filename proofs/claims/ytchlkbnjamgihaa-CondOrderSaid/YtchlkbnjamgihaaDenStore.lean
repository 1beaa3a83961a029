/-
  Regions whose order is drawn and that store: the stores come in the order of the text, into blocks that nothing else of the region looks into. Its conditions: storeOK.
-/
import Derived.Test.YtchlkbnjamgihaaDenDraw
namespace Go.Den
open Go
open Go.RowKit (Below)

variable {P : Program} {X : Ctx} {F : Nat → Prop} {B : Nat} {ι : Pos} {H : Heap} {w : World} {N : Nat → Prop}

def ComesW (stp : Option Nat → Env → I → Option AV) (e : Env) (o : Ins) (v : AV) : Prop :=
  ∃ b, wanted e o.guard = some b ∧ (b = true → stp o.dst e o.op = some v) ∧ (b = false → v = .undef)
theorem ComesW.congr {stp : Option Nat → Env → I → Option AV} {e e' : Env} {o : Ins} {v : AV} (h : ComesW stp e o v) (hcg : (∀ t ∈ o.op.tmps, e t = e' t) → stp o.dst e o.op = stp o.dst e' o.op) (he : ∀ t ∈ o.tmps, e t = e' t) : ComesW stp e' o v := by
  obtain ⟨b, h1, h2, h3⟩ := h
  refine ⟨b, (wanted_congr he).symm.trans h1, fun hb => ?_, h3⟩
  rw [← hcg (fun t ht => he t (by simp only [Ins.tmps, List.mem_append]; exact .inr ht))]
  exact h2 hb

theorem runW_vals {stp : Option Nat → Env → I → Option AV} {l : List Ins} (hcg : ∀ (e e' : Env) (o : Ins), (∀ t ∈ o.op.tmps, e t = e' t) → stp o.dst e o.op = stp o.dst e' o.op) (hl : Apart l) {e0 : Env} :
    ∀ (r : List Ins) (k : Nat) (vs : List AV) (e1 : Env), l.drop k = r → vs.length = k → runW stp r (mix l vs (fun j => decide (j < k)) e0) = some e1 →
      ∃ us : List AV, us.length = k + r.length ∧ us.take k = vs ∧ e1 = mix l us (fun j => decide (j < l.length)) e0 ∧ ∀ (i : Nat) (o : Ins), k ≤ i → l[i]? = some o → ComesW stp (mix l us (fun j => decide (j < i)) e0) o (us.getD i .undef)
  | [], k, vs, e1, hd, hvs, h => by
    obtain rfl := Option.some.inj h
    have hk : l.length ≤ k := List.drop_eq_nil_iff.1 hd
    refine ⟨vs, by simp [hvs], by rw [← hvs, List.take_length], ?_, fun i o hi ho => ?_⟩
    · funext t
      simp only [mix]
      split
      · rename_i j hj
        obtain ⟨o, ho, _⟩ := findIdx_some hj
        have := (List.getElem?_eq_some_iff.1 ho).1
        rw [if_pos (by simp; omega), if_pos (by simpa using this)]
      · rfl
    · have := (List.getElem?_eq_some_iff.1 ho).1
      omega
  | o :: r, k, vs, e1, hd, hvs, h => by
    have hk : l[k]? = some o := by
      have := congrArg (·[0]?) hd
      simpa [List.getElem?_drop] using this
    have hd' : l.drop (k + 1) = r := by
      have := congrArg (·.drop 1) hd
      simpa [List.drop_drop, Nat.add_comm] using this
    have ext : ∀ (v : AV) (L : Nat → Bool), L k = false → (∀ j, k < j → L j = false) → mix l (vs ++ [v]) L e0 = mix l vs L e0 := by
      intro v L h1 h2
      funext t
      simp only [mix]
      split
      · rename_i j hj
        by_cases hjk : j < k
        · simp [List.getD_eq_getElem?_getD, List.getElem?_append_left (hvs ▸ hjk)]
        · have : L j = false := by
            rcases Nat.lt_or_eq_of_le (Nat.le_of_not_lt hjk) with h3 | h3
            · exact h2 j h3
            · exact h3 ▸ h1
          simp [this]
      · rfl
    have next : ∀ v, (mix l vs (fun j => decide (j < k)) e0).put o.dst v = mix l (vs ++ [v]) (fun j => decide (j < k + 1)) e0 := by
      intro v
      rw [← ext v (fun j => decide (j < k)) (by simp) (fun j hj => by simp; omega), mix_put hl hk v (by simp [List.getD_eq_getElem?_getD, hvs])]
      congr 1
      funext j
      rw [Bool.eq_iff_iff]
      simp only [Bool.or_eq_true, beq_iff_eq, decide_eq_true_eq]
      omega
    have fin : ∀ v, ComesW stp (mix l vs (fun j => decide (j < k)) e0) o v → runW stp r (mix l (vs ++ [v]) (fun j => decide (j < k + 1)) e0) = some e1 →
        ∃ us : List AV, us.length = k + (o :: r).length ∧ us.take k = vs ∧ e1 = mix l us (fun j => decide (j < l.length)) e0 ∧ ∀ (i : Nat) (o' : Ins), k ≤ i → l[i]? = some o' → ComesW stp (mix l us (fun j => decide (j < i)) e0) o' (us.getD i .undef) := by
      intro v hc hr
      obtain ⟨us, h1, h2, h3, h4⟩ := runW_vals hcg hl r (k + 1) (vs ++ [v]) e1 hd' (by simp [hvs]) hr
      have hus : us.take k = vs := by
        have := congrArg (·.take k) h2
        simp only [List.take_take] at this
        rw [Nat.min_eq_left (Nat.le_succ k), List.take_append_of_le_length (Nat.le_of_eq hvs.symm), ← hvs, List.take_length] at this
        rw [← hvs]; exact this
      refine ⟨us, by simp [h1]; omega, hus, h3, fun i o' hi ho' => ?_⟩
      rcases Nat.lt_or_eq_of_le hi with hlt | rfl
      · exact h4 i o' hlt ho'
      · obtain rfl := Option.some.inj (hk.symm.trans ho')
        have hv : us.getD k .undef = v := by
          have := congrArg (·[k]?) h2
          simp only [List.getElem?_take, Nat.lt_succ_self, if_true] at this
          rw [List.getD_eq_getElem?_getD, this]
          simp [← hvs]
        rw [hv]
        refine hc.congr (hcg _ _ o) fun t _ => ?_
        simp only [mix]
        split
        · rename_i j hj
          split
          · rename_i hjk
            have hjk : j < k := by simpa using hjk
            rw [← hus]
            simp [List.getD_eq_getElem?_getD, List.getElem?_take, hjk]
          · rfl
        · rfl
    simp only [runW] at h
    split at h
    · rename_i hw
      split at h
      · rename_i v hst
        rw [next v] at h
        exact fin v ⟨true, hw, fun _ => hst, fun e => by cases e⟩ h
      · cases h
    · rename_i hw
      rw [next .undef] at h
      exact fin .undef ⟨false, hw, fun e => (by cases e), fun _ => rfl⟩ h
    · cases h


theorem touch_congr {A : List Key} {e e' : Env} {i : I} (h : ∀ t ∈ i.tmps, e t = e' t) : touchOK X A e i = touchOK X A e' i := by
  cases i with
  | load sz g a => simp only [touchOK]; rw [ev_congr h]
  | call f as =>
    simp only [touchOK]
    rw [ev_congr (x := f) (fun t ht => h t (by simp only [I.tmps, List.mem_append]; exact .inl ht)), evs_congr (xs := as) (fun t ht => h t (by simp only [I.tmps, List.mem_append]; exact .inr ht))]
  | indexAddr sz x y => simp only [touchOK]; rw [ev_congr (x := x) (fun t ht => h t (by simp only [I.tmps, List.mem_append]; exact .inl ht))]
  | slice sz x lo hi m => simp only [touchOK]; rw [ev_congr (x := x) (fun t ht => h t (by simp only [I.tmps, List.mem_append]; exact .inl ht))]
  | _ => rfl

theorem stepT_congr {go : Go1'} {π : Key} {A : List Key} {d : Option Nat} {e e' : Env} {i : I} (h : ∀ t ∈ i.tmps, e t = e' t) : stepT X go π A H d e i = stepT X go π A H d e' i := by
  unfold stepT; rw [touch_congr h, stepQ_congr h]

mutual
theorem snap_same {H H' : Heap} : ∀ (x : AV), x.pure = true → snap H' x = snap H x
  | .agg cs, h => by simp only [AV.pure] at h; simp only [snap]; rw [snapL_same cs h]
  | .tup cs, h => by simp only [AV.pure] at h; simp only [snap]; rw [snapL_same cs h]
  | .fn _ cs, h => by simp only [AV.pure] at h; simp only [snap]; rw [snapL_same cs h]
  | .iface _ v, h => by simp only [AV.pure] at h; simp only [snap]; rw [snap_same v h]
  | .own _ _ _ _, h | .ptr _ _ _ _, h | .map _ _, h => by simp [AV.pure] at h
  | .bool _, _ | .int _ _, _ | .str _, _ | .sl _, _ | .zs _, _ | .rp _ _, _ | .nilp, _ | .nilfn, _ | .nilmap, _ | .nilif, _ | .junk, _ => by simp [snap]
theorem snapL_same {H H' : Heap} : ∀ (l : List AV), AV.pureL l = true → snapL H' l = snapL H l
  | [], _ => by simp [snapL]
  | v :: r, h => by
    simp only [AV.pureL, Bool.and_eq_true] at h
    simp only [snapL]; rw [snap_same v h.1, snapL_same r h.2]
end

/-- What looks into no block of some tells the same when these turn. -/
theorem stepT_same {go : Go1'} {π : Key} {A : List Key} {d : Option Nat} {e : Env} {i : I} {H H' : Heap} {v : AV} (h : stepT X go π A H d e i = some v) (hH : ∀ k, k ∉ A → H' k = H k) : stepQ X go π d e H' i = some v := by
  unfold stepT at h
  split at h
  · rename_i ht
    cases i with
    | load sz g a =>
      simp only [touchOK] at ht
      have e1 : elemAt H' (a.ev X e) = elemAt H (a.ev X e) := by
        cases hx : a.ev X e with
        | ptr k ver i j =>
          rw [hx] at ht
          have hk : k ∉ A := by simpa using ht
          simp only [elemAt, Heap.live, hH k hk]
        | _ => rfl
      have e2 : loadA H' sz g (a.ev X e) = loadA H sz g (a.ev X e) := by unfold loadA; rw [e1]
      have hv : ∀ (H : Heap) (o : Option AV), valueOf (withH H o) = o := fun H o => by cases o <;> rfl
      simp only [stepQ, stepI, hv] at h ⊢
      rw [e2]; exact h
    | call f as =>
      simp only [touchOK] at ht
      simp only [stepQ] at h ⊢
      split at h
      · rename_i fn caps hf
        rw [hf] at ht
        simp only at ht
        unfold callQ at h ⊢
        rw [snapL_same (H := H) _ ht]
        exact h
      · cases h
    | indexAddr sz x y =>
      simp only [touchOK] at ht
      have hv : ∀ (H : Heap) (o : Option AV), valueOf (withH H o) = o := fun H o => by cases o <;> rfl
      simp only [stepQ, stepI, hv] at h ⊢
      cases hx : x.ev X e with
      | own k ver off len => rw [hx] at ht; cases ht
      | _ => rw [hx] at h; exact h
    | slice sz x lo hi m =>
      simp only [touchOK] at ht
      have hv : ∀ (H : Heap) (o : Option AV), valueOf (withH H o) = o := fun H o => by cases o <;> rfl
      cases m with
      | none =>
        simp only [stepQ, stepI, hv] at h ⊢
        cases hx : x.ev X e with
        | own k ver off len => rw [hx] at ht; cases ht
        | _ => rw [hx] at h; exact h
      | some m =>
        simp only [stepQ, stepI] at h ⊢
        split at h
        · rename_i hz; rw [if_pos hz]; rw [hv] at h ⊢; exact h
        · cases h
    | buildSlice sz len zero parts => exact h
    | box _ _ => cases h
    | store _ _ _ => cases h
    | append _ _ _ _ => cases h
    | build zero parts =>
      simp only [stepQ, stepI] at h ⊢
      have hv : ∀ (H : Heap) (o : Option AV), valueOf (withH H o) = o := fun H o => by cases o <;> rfl
      split at h
      · rename_i hz; rw [if_pos hz]; rw [hv] at h ⊢; exact h
      · cases h
    | mov _ => exact h
    | mkfn _ _ => exact h
    | mkiface _ _ => exact h
    | no => cases h
    | _ =>
      have hv : ∀ (H : Heap) (o : Option AV), valueOf (withH H o) = o := fun H o => by cases o <;> rfl
      simp only [stepQ, stepI, hv] at h ⊢
      exact h
  · cases h

theorem storeA_other {sz : Nat} {a x : AV} {H H' : Heap} (h : storeA H sz a x = some H') : ∃ k ver i j, a = .ptr k ver i j ∧ ∀ k', k' ≠ k → H' k' = H k' := by
  cases a with
  | ptr k ver i j =>
    simp only [storeA] at h
    split at h
    · split at h
      · split at h
        · obtain rfl := Option.some.inj h
          exact ⟨k, ver, i, j, rfl, fun k' hk => by simp only [Heap.set, if_neg hk]⟩
        · cases h
      · cases h
    · cases h
  | _ => cases h

theorem runS_other {e : Env} : ∀ {l : List Ins} {H H' : Heap}, runS X e l H = some H' → ∀ k, k ∉ storeKeys X e l → H' k = H k
  | [], H, H', h, k, _ => by obtain rfl := Option.some.inj h; rfl
  | o :: r, H, H', h, k, hk => by
    simp only [runS] at h
    simp only [storeKeys] at hk
    cases hs : isStore o.op with
    | none => rw [hs] at h hk; exact runS_other h k hk
    | some p =>
      obtain ⟨sz, a, x⟩ := p
      rw [hs] at h hk
      simp only at h hk
      split at h
      · rename_i H1 h1
        obtain ⟨k0, ver, i, j, ha, ho⟩ := storeA_other h1
        rw [ha] at hk
        simp only [List.mem_cons, not_or] at hk
        rw [runS_other h k hk.2, ho k hk.1]
      · cases h

theorem runS_append {e : Env} : ∀ {l m : List Ins} {H : Heap}, runS X e (l ++ m) H = (runS X e l H).bind (runS X e m)
  | [], m, H => rfl
  | o :: r, m, H => by
    simp only [List.cons_append, runS]
    cases isStore o.op with
    | none => exact runS_append
    | some p =>
      simp only
      cases storeA H p.1 (p.2.1.ev X e) (p.2.2.ev X e) with
      | none => rfl
      | some H1 => exact runS_append
theorem storeKeys_append {e : Env} : ∀ {l m : List Ins}, storeKeys X e (l ++ m) = storeKeys X e l ++ storeKeys X e m
  | [], m => rfl
  | o :: r, m => by
    simp only [List.cons_append, storeKeys]
    cases isStore o.op with
    | none => exact storeKeys_append
    | some p => simp only; split <;> simp [storeKeys_append]

structure StoreFacts (l : List Ins) (after : Nat → List Nat) : Prop where
  plain : ∀ (i : Nat) (o : Ins), l[i]? = some o → (isStore o.op).isSome = true → o.dst = none ∧ o.guard = none
  chain : ∀ (i j : Nat) (oi oj : Ins), j < i → l[i]? = some oi → l[j]? = some oj → (isStore oi.op).isSome = true → (isStore oj.op).isSome = true → j ∈ after i
  read : ∀ (i j : Nat) (oi oj : Ins) (d : Nat), l[i]? = some oi → l[j]? = some oj → (isStore oi.op).isSome = true → oj.dst = some d → d ∈ oi.tmps → j < i

theorem storeOK_facts {l : List Ins} {after : Nat → List Nat} (h : storeOK l after = true) : StoreFacts l after := by
  unfold storeOK at h
  rw [List.all_eq_true] at h
  have key : ∀ i oi, l[i]? = some oi → (isStore oi.op).isSome = true → (oi.dst = none ∧ oi.guard = none) ∧
      ∀ j oj, l[j]? = some oj → (j < i → (isStore oj.op).isSome = true → j ∈ after i) ∧ ∀ d, oj.dst = some d → d ∈ oi.tmps → j < i := by
    intro i oi hi hs
    have hlt := (List.getElem?_eq_some_iff.1 hi).1
    have h1 := h i (List.mem_range.2 hlt)
    rw [hi] at h1
    simp only [hs, Bool.not_true, Bool.false_or, Bool.and_eq_true, List.all_eq_true] at h1
    obtain ⟨⟨h2, h3⟩, h4⟩ := h1
    refine ⟨⟨by simpa using h2, by simpa using h3⟩, fun j oj hj => ?_⟩
    have hjl := (List.getElem?_eq_some_iff.1 hj).1
    have h5 := h4 j (List.mem_range.2 hjl)
    rw [hj] at h5
    simp only [Bool.and_eq_true, Bool.or_eq_true, Bool.not_eq_true', decide_eq_true_eq, decide_eq_false_iff_not, List.contains_eq_mem] at h5
    refine ⟨fun hlt hst => ?_, fun d hd hm => ?_⟩
    · rcases h5.1 with (h6 | h6) | h6
      · exact absurd hlt h6
      · rw [hst] at h6; cases h6
      · exact h6
    · rcases h5.2 with h6 | h6
      · rw [hd] at h6
        simp only [Bool.not_eq_true', decide_eq_false_iff_not] at h6
        exact absurd hm h6
      · exact h6
  exact ⟨fun i o hi hs => (key i o hi hs).1, fun i j oi oj hlt hi hj hs hs' => ((key i oi hi hs).2 j oj hj).1 hlt hs', fun i j oi oj d hi hj hs hd hm => ((key i oi hi hs).2 j oj hj).2 d hd hm⟩

theorem touched_ok {A : List Key} {e : Env} {i : I} {t : List Key} (h : touched X e i = some t) (hA : ∀ k ∈ t, k ∉ A) : touchOK X A e i = true := by
  cases i with
  | load sz g a =>
    simp only [touched] at h
    simp only [touchOK]
    cases hx : a.ev X e with
    | ptr k ver i j =>
      rw [hx] at h
      obtain rfl := Option.some.inj h
      simpa using hA k (by simp)
    | _ => rfl
  | call f args =>
    simp only [touched] at h
    simp only [touchOK]
    split at h
    · split at h
      · assumption
      · cases h
    · rename_i hne
      first
        | rfl
        | (split
           · rename_i f0 caps hf; exact absurd hf (hne f0 caps)
           · rfl)
  | indexAddr sz x y =>
    simp only [touched] at h
    simp only [touchOK]
    cases hx : x.ev X e with
    | own k ver off len => rw [hx] at h; cases h
    | _ => rfl
  | slice sz x lo hi m =>
    simp only [touched] at h
    simp only [touchOK]
    cases hx : x.ev X e with
    | own k ver off len => rw [hx] at h; cases h
    | _ => rfl
  | _ => rfl

theorem runT_more {go : Go1'} {π : Key} {H : Heap} : ∀ {l : List Ins} {e e' : Env} {T T' : List Key}, runT X go π H l e T = some (e', T') → ∀ k ∈ T, k ∈ T'
  | [], e, e', T, T', h, k, hk => by obtain ⟨rfl, rfl⟩ := Prod.mk.inj (Option.some.inj h); exact hk
  | o :: r, e, e', T, T', h, k, hk => by
    simp only [runT] at h
    split at h
    · split at h
      · split at h
        · exact runT_more h k (List.mem_append_right _ hk)
        · cases h
      · cases h
    · exact runT_more h k hk
    · cases h
theorem runT_W {go : Go1'} {π : Key} {H : Heap} {A : List Key} : ∀ {l : List Ins} {e e' : Env} {T T' : List Key}, runT X go π H l e T = some (e', T') → (∀ k ∈ T', k ∉ A) → runW (stepT X go π A H) l e = some e'
  | [], e, e', T, T', h, _ => by obtain ⟨rfl, rfl⟩ := Prod.mk.inj (Option.some.inj h); rfl
  | o :: r, e, e', T, T', h, hA => by
    simp only [runT] at h
    simp only [runW]
    split at h
    · rename_i hw
      split at h
      · rename_i t ht
        split at h
        · rename_i v hv
          have hm := runT_more h
          have : stepT X go π A H o.dst e o.op = some v := by
            unfold stepT
            rw [if_pos (touched_ok ht (fun k hk => hA k (hm k (List.mem_append_left _ hk)))), hv]
          rw [this]
          exact runT_W h hA
        · cases h
      · cases h
    · exact runT_W h hA
    · cases h
theorem runD_parts {go : Go1'} {π : Key} {l : List Ins} {s s' : St} (h : runD X go π l s = some s') :
    runW (stepT X go π (storeKeys X s'.env l) s.H) (l.map noStore) s.env = some s'.env ∧ runS X s'.env l s.H = some s'.H := by
  unfold runD at h
  cases hr : runT X go π s.H (l.map noStore) s.env [] with
  | none => rw [hr] at h; cases h
  | some p =>
    obtain ⟨e, T⟩ := p
    rw [hr] at h
    simp only [doneT] at h
    split at h
    · rename_i hk
      split at h
      · rename_i H1 hS
        obtain rfl := Option.some.inj h
        refine ⟨runT_W hr (fun k hk' hA => ?_), hS⟩
        simp only [keysApart, List.all_eq_true, Bool.not_eq_true', decide_eq_false_iff_not] at hk
        exact hk k hk' k hA rfl
      · cases h
    · cases h

theorem noStore_get {l : List Ins} {i : Nat} {o : Ins} (h : l[i]? = some o) : (l.map noStore)[i]? = some (noStore o) := by simp [h]
theorem noStore_some {o : Ins} (h : (isStore o.op).isSome = true) : noStore o = ⟨none, none, .mov (.c .undef)⟩ := by unfold noStore; rw [if_pos h]
theorem noStore_none {o : Ins} (h : (isStore o.op).isSome = false) : noStore o = o := by unfold noStore; rw [if_neg (by rw [h]; simp)]
theorem isStore_eq {i : I} {p : Nat × Opd × Opd} (h : isStore i = some p) : i = .store p.1 p.2.1 p.2.2 := by
  cases i with
  | store sz a x => obtain rfl := Option.some.inj h; rfl
  | _ => cases h

/-- **Whatever order is drawn**, of a region that stores. -/
theorem sdraw_says (hX : CtxOK P X) {go : Nat → List AV → Key → Heap → Option (AV × Heap)} (hgo : GoSound P X go) {π : Key} {nt : Nat} {ops : Array Oper} {Q : Exit → Act → World → Prop} {l : List Ins}
    (hl : trOps P nt ops ops.toList = some l) (hD : drawOK l (binding ops) = true) (hSt : storeOK l (binding ops) = true) {s s' : St} (hrun : runD X go π l s = some s') {a : Act} {w : World} (hS : SR X F B ι s.H w) (hF : FR F ι s.H w s.env a nt)
    (hQ : ∀ a' w' ι', SR X F B ι' s'.H w' → Adv ι s.H w ι' s'.H w' → FR F ι' s'.H w' s'.env a' nt → Q .normal a' w') :
    wpAny P .any ops Q ops.size (Array.replicate ops.size false) a w := by
  obtain ⟨hW, hRS⟩ := runD_parts hrun
  obtain ⟨e0, H0⟩ := s
  obtain ⟨e1, H1⟩ := s'
  simp only at hW hRS hS hF hQ
  have hfacts := drawOK_facts hD
  have hst := storeOK_facts hSt
  obtain ⟨hlen, hget⟩ := trOps_get hl
  have hdst' : ∀ o : Ins, (isStore o.op).isSome = true → ∀ i, l[i]? = some o → o.dst = none := fun o h i hi => (hst.plain i o hi h).1
  have hns : ∀ (i : Nat) (o : Ins), l[i]? = some o → (noStore o).dst = o.dst := by
    intro i o hi
    cases hs : (isStore o.op).isSome with
    | true => rw [noStore_some hs]; exact ((hst.plain i o hi hs).1).symm
    | false => rw [noStore_none hs]
  -- the list without stores
  generalize hl' : l.map noStore = l' at hW
  have hget' : ∀ (i : Nat) (o : Ins), l[i]? = some o → l'[i]? = some (noStore o) := fun i o hi => hl' ▸ noStore_get hi
  have hback : ∀ (i : Nat) (o' : Ins), l'[i]? = some o' → ∃ o, l[i]? = some o ∧ o' = noStore o := by
    intro i o' hi
    rw [← hl', List.getElem?_map, Option.map_eq_some_iff] at hi
    obtain ⟨o, h1, h2⟩ := hi
    exact ⟨o, h1, h2.symm⟩
  have hapart : Apart l' := by
    intro i j oi oj d hi hj hdi hdj
    obtain ⟨pi, g1, rfl⟩ := hback i oi hi
    obtain ⟨pj, g2, rfl⟩ := hback j oj hj
    rw [hns i pi g1] at hdi
    rw [hns j pj g2] at hdj
    exact hfacts.apart i j pi pj d g1 g2 hdi hdj
  have h0 : mix l' [] (fun j => decide (j < 0)) e0 = e0 := by
    funext t; simp only [mix]; split <;> simp
  obtain ⟨us, hus, _, he1, hcomes⟩ := runW_vals (fun e e' o h => stepT_congr h) hapart (e0 := e0) l' 0 [] e1 (by simp) rfl (by rw [h0]; exact hW)
  have hsz : ops.size = l.length := by simpa using hlen
  have hll : l'.length = l.length := by rw [← hl']; simp
  -- the blocks when the stores ahead of a place are done
  have hpre : ∀ p, p ≤ l.length → ∃ Hp, runS X e1 (l.take p) H0 = some Hp := by
    intro p hp
    have := runS_append (X := X) (e := e1) (l := l.take p) (m := l.drop p) (H := H0)
    rw [List.take_append_drop, hRS] at this
    cases hx : runS X e1 (l.take p) H0 with
    | none => rw [hx] at this; cases this
    | some Hp => exact ⟨Hp, rfl⟩
  have hnext0 : ∀ (p : Nat) (o : Ins) (Hp : Heap), l[p]? = some o → runS X e1 (l.take p) H0 = some Hp → runS X e1 (l.take (p + 1)) H0 = (match isStore o.op with | some q => storeA Hp q.1 (q.2.1.ev X e1) (q.2.2.ev X e1) | none => some Hp) := by
    intro p o Hp hp hH
    have hlt := (List.getElem?_eq_some_iff.1 hp).1
    have e2 : l.take (p + 1) = l.take p ++ [o] := by
      rw [List.take_add_one, hp]; rfl
    rw [e2, runS_append, hH]
    simp only [Option.bind_some, runS]
    cases isStore o.op with
    | none => rfl
    | some q => simp only; cases storeA Hp q.1 (q.2.1.ev X e1) (q.2.2.ev X e1) <;> rfl
  have hskip : ∀ p q, p ≤ q → q ≤ l.length → (∀ (j : Nat) (o : Ins), p ≤ j → j < q → l[j]? = some o → (isStore o.op).isSome = false) → runS X e1 (l.take q) H0 = runS X e1 (l.take p) H0 := by
    intro p q hpq
    induction q with
    | zero => intro _ _; have : p = 0 := by omega
              rw [this]
    | succ q ih =>
      intro hq hno
      by_cases hpe : p = q + 1
      · rw [hpe]
      · have hq' : q < l.length := by omega
        have ho := List.getElem?_eq_getElem hq'
        obtain ⟨Hq, hHq⟩ := hpre q (by omega)
        have := hno q l[q] (by omega) (by omega) ho
        rw [hnext0 q l[q] Hq ho hHq]
        cases hs : isStore l[q].op with
        | some x => rw [hs] at this; cases this
        | none =>
          simp only
          rw [← hHq]
          exact ih (by omega) (by omega) (fun j o h1 h2 h3 => hno j o h1 (by omega) h3)
  have hother : ∀ p Hp, runS X e1 (l.take p) H0 = some Hp → ∀ k, k ∉ storeKeys X e1 l → Hp k = H0 k := by
    intro p Hp hHp k hk
    refine runS_other hHp k (fun h => hk ?_)
    have := storeKeys_append (X := X) (e := e1) (l := l.take p) (m := l.drop p)
    rw [List.take_append_drop] at this
    rw [this]; exact List.mem_append_left _ h
  have main : ∀ (fuel : Nat) (listed : Array Bool) (p : Nat) (Hp : Heap) (ι : Pos) (a : Act) (w : World), listed.size = ops.size → p ≤ l.length → runS X e1 (l.take p) H0 = some Hp →
      (∀ (i : Nat) (o : Ins), l[i]? = some o → (isStore o.op).isSome = true → (listed.getD i false = true ↔ i < p)) →
      (∀ i, listed.getD i true = true → i < ops.size → ∀ j ∈ binding ops i, listed.getD j false = true) →
      (List.range ops.size).countP (fun i => !listed.getD i true) ≤ fuel →
      SR X F B ι Hp w → FR F ι Hp w (mix l' us (fun j => listed.getD j false) e0) a nt →
      (∀ a' w' ι', SR X F B ι' H1 w' → Adv ι Hp w ι' H1 w' → FR F ι' H1 w' e1 a' nt → Q .normal a' w') → wpAny P .any ops Q fuel listed a w := by
    intro fuel
    have done : ∀ (listed : Array Bool), listed.size = ops.size → Region.ready .any ops listed = [] → ∀ i, i < ops.size → listed.getD i false = true := by
      intro listed hsize hr i
      induction i using Nat.strongRecOn with
      | ind i ih =>
        intro hi
        have hi' : i < listed.size := hsize ▸ hi
        cases hli : listed.getD i false with
        | true => rfl
        | false =>
          exfalso
          have hmem : i ∈ Region.ready .any ops listed := by
            rw [mem_ready]
            refine ⟨by simpa [hi'] using hli, ops[i], Array.getElem?_eq_getElem hi, fun e he hb => ?_⟩
            have hon : e.on ∈ binding ops i := by
              simp only [binding, Array.getElem?_eq_getElem hi]
              exact List.mem_map.2 ⟨e, List.mem_filter.2 ⟨by simpa using he, hb⟩, rfl⟩
            have hlt := hfacts.back i (hsz ▸ hi) e.on hon
            exact ih e.on hlt (Nat.lt_trans hlt hi)
          rw [hr] at hmem; cases hmem
    have final : ∀ (listed : Array Bool), listed.size = ops.size → Region.ready .any ops listed = [] → mix l' us (fun j => listed.getD j false) e0 = e1 := by
      intro listed hsize hr
      rw [he1]
      funext t
      simp only [mix]
      split
      · rename_i j hj
        obtain ⟨o, ho, _⟩ := findIdx_some hj
        have hjl := (List.getElem?_eq_some_iff.1 ho).1
        rw [if_pos (show (fun j => listed.getD j false) j = true from done listed hsize hr j (by omega)), if_pos (by simpa using hjl)]
      · rfl
    have finalH : ∀ (listed : Array Bool) (p : Nat) (Hp : Heap), listed.size = ops.size → Region.ready .any ops listed = [] → p ≤ l.length → runS X e1 (l.take p) H0 = some Hp →
        (∀ (i : Nat) (o : Ins), l[i]? = some o → (isStore o.op).isSome = true → (listed.getD i false = true ↔ i < p)) → Hp = H1 := by
      intro listed p Hp hsize hr hp hHp hiff
      have h2 := hskip p l.length hp (Nat.le_refl _) (fun j o h1 h2 h3 => by
        cases hs : (isStore o.op).isSome with
        | false => rfl
        | true =>
          have := (hiff j o h3 hs).1 (done listed hsize hr j (by omega))
          omega)
      rw [List.take_length, hRS, hHp] at h2
      exact (Option.some.inj h2).symm
    induction fuel with
    | zero =>
      intro listed p Hp ι a w hsize hp hHp hiff hclosed hcount hS hF hQ
      have hr : Region.ready .any ops listed = [] := by
        rw [List.eq_nil_iff_forall_not_mem]
        intro i hi
        rw [mem_ready] at hi
        obtain ⟨h1, o, ho, _⟩ := hi
        have hlt := (Array.getElem?_eq_some_iff.1 ho).1
        have : 0 < (List.range ops.size).countP (fun i => !listed.getD i true) := List.countP_pos_iff.2 ⟨i, List.mem_range.2 hlt, by rw [h1]; rfl⟩
        omega
      obtain rfl := finalH listed p Hp hsize hr hp hHp hiff
      exact ⟨hr, hQ a w ι hS (.refl _ _ _) (final listed hsize hr ▸ hF)⟩
    | succ fuel ih =>
      intro listed p Hp ι a w hsize hp hHp hiff hclosed hcount hS hF hQ
      refine ⟨fun hr => ?_, fun i hi => ?_⟩
      · obtain rfl := finalH listed p Hp hsize hr hp hHp hiff
        exact hQ a w ι hS (.refl _ _ _) (final listed hsize hr ▸ hF)
      rw [mem_ready] at hi
      obtain ⟨hun, o, ho, hall⟩ := hi
      have hlt := (Array.getElem?_eq_some_iff.1 ho).1
      have hlt' : i < listed.size := hsize ▸ hlt
      have hunf : listed.getD i false = false := by simpa [hlt'] using hun
      obtain ⟨n, hn, htr⟩ := hget i o (by simpa using ho)
      obtain ⟨hti, hdst, hguard, hd⟩ := trOp_parts htr
      have inAfter : ∀ j, j ∈ binding ops i → listed.getD j false = true := by
        intro j h2
        simp only [binding, ho, List.mem_map, List.mem_filter] at h2
        obtain ⟨e, ⟨he, hb⟩, rfl⟩ := h2
        exact hall e (by simpa using he) hb
      have hcnt : (List.range ops.size).countP (fun j => !(listed.setIfInBounds i true).getD j true) ≤ fuel := by
        have hc : (List.range ops.size).countP (fun j => !(listed.setIfInBounds i true).getD j true) < (List.range ops.size).countP (fun j => !listed.getD j true) := by
          rw [range_split hlt, List.countP_append, List.countP_append, List.countP_cons, List.countP_cons]
          have e1 : ∀ m : List Nat, i ∉ m → m.countP (fun j => !(listed.setIfInBounds i true).getD j true) = m.countP (fun j => !listed.getD j true) := by
            intro m hm
            refine List.countP_congr fun j hj => ?_
            rw [getD_set_ne (i := i) (j := j) true (by rintro rfl; exact hm hj)]
          rw [e1 (List.range i) (by simp), e1 (List.range' (i + 1) (ops.size - (i + 1))) (by rw [List.mem_range'_1]; omega), hun]
          simp [hlt']
        omega
      have hclosed' : ∀ j, (listed.setIfInBounds i true).getD j true = true → j < ops.size → ∀ k ∈ binding ops j, (listed.setIfInBounds i true).getD k false = true := by
        intro j hj hjl k hk
        by_cases hij : j = i
        · subst hij; exact getD_set_true (inAfter k hk)
        · rw [getD_set_ne true (Ne.symm hij)] at hj
          exact getD_set_true (hclosed j hj hjl k hk)
      have hmix : ∀ (a' : Act) (ι' : Pos) (w' : World) (Hq : Heap), FR F ι' Hq w' ((mix l' us (fun j => listed.getD j false) e0).put n.dst (us.getD i .undef)) a' nt →
          FR F ι' Hq w' (mix l' us (fun j => (listed.setIfInBounds i true).getD j false) e0) a' nt := by
        intro a' ι' w' Hq hf
        have hn' := hget' i n hn
        have := mix_put hapart (L := fun j => listed.getD j false) (e0 := e0) (vs := us) hn' (us.getD i .undef) rfl
        rw [hns i n hn] at this
        rw [this] at hf
        refine cast (congrArg (fun e => FR F ι' Hq w' e a' nt) ?_) hf
        congr 1
        funext j
        by_cases hij : j = i
        · subst hij; simp [hlt']
        · rw [getD_set_ne false (Ne.symm hij)]
          simp [hij]
      cases hs : (isStore n.op).isSome with
      | true =>
        obtain ⟨q, hq⟩ := Option.isSome_iff_exists.1 hs
        have hop := isStore_eq hq
        obtain ⟨hdn, hgn⟩ := hst.plain i n hn hs
        -- the stores that are done are those ahead
        have hip : p ≤ i := by
          rcases Nat.lt_or_ge i p with h | h
          · have := (hiff i n hn hs).2 h; rw [hunf] at this; cases this
          · exact h
        have hno : ∀ (j : Nat) (o : Ins), p ≤ j → j < i → l[j]? = some o → (isStore o.op).isSome = false := by
          intro j o h1 h2 h3
          cases hs' : (isStore o.op).isSome with
          | false => rfl
          | true =>
            have := (hiff j o h3 hs').1 (inAfter j (hst.chain i j n o h2 hn h3 hs hs'))
            omega
        have hil : i < l.length := (List.getElem?_eq_some_iff.1 hn).1
        have hHi : runS X e1 (l.take i) H0 = some Hp := (hskip p i hip (by omega) hno).trans hHp
        obtain ⟨Hn, hHn⟩ := hpre (i + 1) (by omega)
        have hsA := hnext0 i n Hp hn hHi
        rw [hHn, hq] at hsA
        simp only at hsA
        -- what it looks at is there
        have hlook : ∀ t ∈ n.op.tmps, mix l' us (fun j => listed.getD j false) e0 t = e1 t := by
          intro t ht
          rw [he1]
          simp only [mix]
          split
          · rename_i j hj
            obtain ⟨oj', hoj', hdj'⟩ := findIdx_some hj
            obtain ⟨oj, hoj, rfl⟩ := hback j oj' hoj'
            rw [hns j oj hoj] at hdj'
            have htm : t ∈ n.tmps := by simp only [Ins.tmps, List.mem_append]; exact .inr ht
            have hji := hst.read i j n oj t hn hoj hs hdj' htm
            have : listed.getD j false = true := by
              rcases hfacts.looks i j n oj t hn hoj (by omega) hdj' htm with ⟨_, h2⟩ | ⟨h1, _⟩
              · exact inAfter j h2
              · omega
            rw [if_pos (show (fun j => listed.getD j false) j = true from this), if_pos (by simp; omega)]
          · rfl
        have hst1 : stepI X go π o.dst (mix l' us (fun j => listed.getD j false) e0) Hp n.op = some (.undef, Hn) := by
          rw [stepI_congr hlook, hop]
          simp only [stepI, ← hsA]
        obtain ⟨i0, hti', hst1⟩ : ∃ i0, trI P o.op = some i0 ∧ stepI X go π o.dst (mix l' us (fun j => listed.getD j false) e0) Hp i0 = some (.undef, Hn) := by
          cases hx : trI P o.op with
          | none => rw [hti, hx] at hst1; cases hst1
          | some i0 => rw [hti, hx] at hst1; exact ⟨i0, rfl, hst1⟩
        unfold wpOp
        simp only [ho]
        have hwant : Region.wanted o (yielded ops a.tmps) = true := by
          have hg : o.guard = none := by
            rw [hgn] at hguard
            cases hog : o.guard with
            | none => rfl
            | some p => rw [hog] at hguard; cases hguard
          unfold Region.wanted; rw [hg]
        rw [hwant]
        simp only [if_true]
        refine .inl ?_
        refine op_does hX hgo hS (fun h => opd_rel hS hF h) hti' hst1 _ _ (fun u w' ι' q1 q2 q3 => ?_)
        refine ih (listed.setIfInBounds i true) (i + 1) Hn ι' _ w' (by simpa using hsize) (by omega) hHn ?_ hclosed' hcnt q1 ?_ (fun a'' w'' ι'' p1 p2 p3 => hQ a'' w'' ι'' p1 (q2.trans p2) p3)
        · intro j oj hj hsj
          by_cases hij : j = i
          · subst hij; simp [hlt']
          · rw [getD_set_ne false (Ne.symm hij), hiff j oj hj hsj]
            constructor
            · omega
            · intro h
              rcases Nat.lt_or_ge j p with h1 | h1
              · exact h1
              · have := hno j oj h1 (by omega) hj; rw [hsj] at this; cases this
        · refine hmix _ ι' w' Hn ?_
          have hon : o.dst = none := by rw [← hdst, hdn]
          rw [hdn, hon]
          exact hF.adv q2
      | false =>
        have hn' := hget' i n hn
        rw [noStore_none hs] at hn'
        -- what it looks at is what it looked at in the order of the text
        have hlook : ∀ t ∈ n.tmps, mix l' us (fun j => decide (j < i)) e0 t = mix l' us (fun j => listed.getD j false) e0 t := by
          intro t ht
          simp only [mix]
          split
          · rename_i j hj
            obtain ⟨oj', hoj', hdj'⟩ := findIdx_some hj
            obtain ⟨oj, hoj, rfl⟩ := hback j oj' hoj'
            rw [hns j oj hoj] at hdj'
            by_cases hij : i = j
            · subst hij
              rw [if_neg (by simp), if_neg (show ¬ (fun j => listed.getD j false) i = true by show ¬ listed.getD i false = true; rw [hunf]; decide)]
            · rcases hfacts.looks i j n oj t hn hoj hij hdj' ht with ⟨h1, h2⟩ | ⟨h1, h2⟩
              · rw [if_pos (by simpa using h1), if_pos (show (fun j => listed.getD j false) j = true from inAfter j h2)]
              · have : listed.getD j false = false := by
                  cases hlj : listed.getD j false with
                  | false => rfl
                  | true =>
                    have hjl : j < ops.size := hsz ▸ (List.getElem?_eq_some_iff.1 hoj).1
                    have := hclosed j (by have := hsize ▸ hjl; simpa [this] using hlj) hjl i h2
                    rw [this] at hunf; cases hunf
                rw [if_neg (by simp; omega), if_neg (show ¬ (fun j => listed.getD j false) j = true by show ¬ listed.getD j false = true; rw [this]; decide)]
          · rfl
        obtain ⟨b, hb, h1, h2⟩ := (hcomes i n (Nat.zero_le _) hn').congr (fun h => stepT_congr h) hlook
        have hnext : ∀ ι' a' w' u, SR X F B ι' Hp w' → Adv ι Hp w ι' Hp w' → Rel (bad F ι' Hp) ι' Hp w' (us.getD i .undef) u → a' = a.put o.dst u → wpAny P .any ops Q fuel (listed.setIfInBounds i true) a' w' := by
          rintro ι' a' w' u hS' hA hr rfl
          refine ih (listed.setIfInBounds i true) p Hp ι' _ w' (by simpa using hsize) hp hHp ?_ hclosed' hcnt hS' ?_ (fun a'' w'' ι'' p1 p2 p3 => hQ a'' w'' ι'' p1 (hA.trans p2) p3)
          · intro j oj hj hsj
            have hij : j ≠ i := by
              rintro rfl
              obtain rfl := Option.some.inj (hn.symm.trans hj)
              rw [hs] at hsj; cases hsj
            rw [getD_set_ne false (Ne.symm hij)]; exact hiff j oj hj hsj
          · refine hmix _ ι' w' Hp ?_
            have := (hF.adv hA).put hd hr
            rw [← hdst] at this
            rw [← hdst]; exact this
        unfold wpOp
        simp only [ho]
        rw [wanted_says hF.env hguard hb]
        cases b with
        | true =>
          simp only [if_true]
          refine .inl ?_
          have hst0 := stepT_same (h1 rfl) (hother p Hp hHp)
          rw [hdst] at hst0
          obtain ⟨i0, hti', hst1⟩ : ∃ i0, trI P o.op = some i0 ∧ stepQ X go π o.dst (mix l' us (fun j => listed.getD j false) e0) Hp i0 = some (us.getD i .undef) := by
            cases hx : trI P o.op with
            | none => rw [hti, hx] at hst0; cases hst0
            | some i0 => rw [hti, hx] at hst0; exact ⟨i0, rfl, hst0⟩
          exact stepQ_does hX hgo hS (fun h => opd_rel hS hF h) hti' hst1 _ _ (fun u w' ι' q1 q2 q3 => hnext ι' _ w' u q1 q2 q3 rfl)
        | false =>
          simp only [Bool.false_eq_true, if_false]
          exact hnext ι _ w undef hS (.refl _ _ _) (by rw [h2 rfl]; exact rel_undef) rfl
  refine main ops.size _ 0 H0 ι a w (by simp) (Nat.zero_le _) (by simp [runS]) ?_ ?_ ?_ hS ?_ hQ
  · intro i o hi hs
    have : (Array.replicate ops.size false).getD i false = false := by
      by_cases hj : i < ops.size
      · simp [hj]
      · simp [Array.getD, hj]
    rw [this]; simp
  · intro i hi hlt
    simp [hlt] at hi
  · exact Nat.le_trans List.countP_le_length (by simp)
  · have : mix l' us (fun j => (Array.replicate ops.size false).getD j false) e0 = e0 := by
      funext t
      simp only [mix]
      split
      · rename_i j hj
        have : (Array.replicate ops.size false).getD j false = false := by
          by_cases hj : j < ops.size
          · simp [hj]
          · simp [Array.getD, hj]
        rw [if_neg (show ¬ (fun j => (Array.replicate ops.size false).getD j false) j = true by show ¬ (Array.replicate ops.size false).getD j false = true; rw [this]; decide)]
      · rfl
    rw [this]; exact hF

end Go.Den
