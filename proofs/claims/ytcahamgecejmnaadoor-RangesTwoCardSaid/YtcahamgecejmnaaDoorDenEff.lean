/-
  A region whose order is drawn, with effects: whatever order is drawn. Its conditions: the data that the reading gives.
-/
import Derived.Test.YtcahamgecejmnaaDoorDenDraw
import Derived.Test.YtcahamgecejmnaaDoorDenAnc
namespace Go.Den
open Go
open Go.RowKit (Below)

variable {P : Program} {X : Ctx} {F : Nat → Prop} {B : Nat} {ι : Pos} {H : Heap} {w : World} {N : Nat → Prop}

/-- What the reading tells of such a region: the values, and the blocks behind the effects ahead of a place. -/
structure EData (X : Ctx) (go : Nat → List AV → Key → Heap → Option (AV × Heap)) (π : Key) (l : List Ins) (anc : Nat → List Nat) (e0 e1 : Env) (us : List AV) (eff : Nat → Bool) (Hs : Nat → Heap) : Prop where
  fin : e1 = mix l us (fun j => decide (j < l.length)) e0
  still : ∀ (i : Nat) (o : Ins), l[i]? = some o → eff i = false → Hs (i + 1) = Hs i
  chain : ∀ (i j : Nat), i < l.length → j < i → eff i = true → eff j = true → j ∈ anc i
  comes : ∀ (i : Nat) (o : Ins), l[i]? = some o → ∃ b, wanted (mix l us (fun j => decide (j < i)) e0) o.guard = some b ∧ (b = false → us.getD i .undef = .undef ∧ Hs (i + 1) = Hs i) ∧
    (b = true → (eff i = true → stepI X go π o.dst (mix l us (fun j => decide (j < i)) e0) (Hs i) o.op = some (us.getD i .undef, Hs (i + 1))) ∧
      (eff i = false → ∀ p, p ≤ l.length → (∀ j, j < l.length → eff j = true → (j ∈ anc i → j < p) ∧ (i ∈ anc j → p ≤ j)) → stepQ X go π o.dst (mix l us (fun j => decide (j < i)) e0) (Hs p) o.op = some (us.getD i .undef)))

theorem edraw_says (hX : CtxOK P X) {go : Nat → List AV → Key → Heap → Option (AV × Heap)} (hgo : GoSound P X go) {π : Key} {nt : Nat} {ops : Array Oper} {Q : Exit → Act → World → Prop} {l : List Ins}
    (hl : trOps P nt ops ops.toList = some l) (hD : drawOK l (binding ops) = true) {e0 e1 : Env} {us : List AV} {eff : Nat → Bool} {Hs : Nat → Heap}
    (hE : EData X go π l (fun i => (ancs (binding ops) l.length).getD i []) e0 e1 us eff Hs) {a : Act} {w : World} (hS : SR X F B ι (Hs 0) w) (hF : FR F ι (Hs 0) w e0 a nt)
    (hQ : ∀ a' w' ι', SR X F B ι' (Hs l.length) w' → Adv ι (Hs 0) w ι' (Hs l.length) w' → FR F ι' (Hs l.length) w' e1 a' nt → Q .normal a' w') :
    wpAny P .any ops Q ops.size (Array.replicate ops.size false) a w := by
  have hfacts := drawOK_facts hD
  obtain ⟨hlen, hget⟩ := trOps_get hl
  have h0 : mix l us (fun j => (Array.replicate ops.size false).getD j false) e0 = e0 := by
    funext t; simp only [mix]; split
    · rename_i j hj
      rw [if_neg]; simp [Array.getD]
    · rfl
  have hsz : ops.size = l.length := by simpa using hlen
  have hskip : ∀ p q, p ≤ q → q ≤ l.length → (∀ j, p ≤ j → j < q → eff j = false) → Hs q = Hs p := by
    intro p q hpq
    induction q with
    | zero => intro _ _; have : p = 0 := by omega
              rw [this]
    | succ q ih =>
      intro hq hno
      by_cases hpe : p = q + 1
      · rw [hpe]
      · rw [hE.still q l[q] (List.getElem?_eq_getElem (by omega)) (hno q (by omega) (by omega))]
        exact ih (by omega) (by omega) (fun j h1 h2 => hno j h1 (by omega))
  have main : ∀ (fuel : Nat) (listed : Array Bool) (p : Nat) (ι : Pos) (a : Act) (w : World), listed.size = ops.size → p ≤ l.length →
      (∀ i, i < l.length → eff i = true → (listed.getD i false = true ↔ i < p)) →
      (∀ i, listed.getD i true = true → i < ops.size → ∀ j ∈ binding ops i, listed.getD j false = true) →
      (List.range ops.size).countP (fun i => !listed.getD i true) ≤ fuel →
      SR X F B ι (Hs p) w → FR F ι (Hs p) w (mix l us (fun j => listed.getD j false) e0) a nt →
      (∀ a' w' ι', SR X F B ι' (Hs l.length) w' → Adv ι (Hs p) w ι' (Hs l.length) w' → FR F ι' (Hs l.length) w' e1 a' nt → Q .normal a' w') → wpAny P .any ops Q fuel listed a w := by
    intro fuel
    have done : ∀ (listed : Array Bool), listed.size = ops.size → Region.ready .any ops listed = [] → ∀ i, i < ops.size → listed.getD i false = true := by
      intro listed hsize hr i
      induction i using Nat.strongRecOn with
      | ind i ih =>
        intro hi
        have hi' : i < listed.size := hsize ▸ hi
        cases hli : listed.getD i false with
        | true => rfl
        | false =>
          exfalso
          have hmem : i ∈ Region.ready .any ops listed := by
            rw [mem_ready]
            refine ⟨by simpa [hi'] using hli, ops[i], Array.getElem?_eq_getElem hi, fun e he hb => ?_⟩
            have hon : e.on ∈ binding ops i := by
              simp only [binding, Array.getElem?_eq_getElem hi]
              exact List.mem_map.2 ⟨e, List.mem_filter.2 ⟨by simpa using he, hb⟩, rfl⟩
            have hlt := hfacts.back i (hsz ▸ hi) e.on hon
            exact ih e.on hlt (Nat.lt_trans hlt hi)
          rw [hr] at hmem; cases hmem
    have final : ∀ (listed : Array Bool), listed.size = ops.size → Region.ready .any ops listed = [] → mix l us (fun j => listed.getD j false) e0 = e1 := by
      intro listed hsize hr
      rw [hE.fin]
      funext t
      simp only [mix]
      split
      · rename_i j hj
        obtain ⟨o, ho, _⟩ := findIdx_some hj
        have hjl := (List.getElem?_eq_some_iff.1 ho).1
        rw [if_pos (show (fun j => listed.getD j false) j = true from done listed hsize hr j (by omega)), if_pos (by simpa using hjl)]
      · rfl
    have finalH : ∀ (listed : Array Bool) (p : Nat), listed.size = ops.size → Region.ready .any ops listed = [] → p ≤ l.length →
        (∀ i, i < l.length → eff i = true → (listed.getD i false = true ↔ i < p)) → Hs p = Hs l.length := by
      intro listed p hsize hr hp hiff
      refine (hskip p l.length hp (Nat.le_refl _) (fun j h1 h2 => ?_)).symm
      cases hs : eff j with
      | false => rfl
      | true => have := (hiff j h2 hs).1 (done listed hsize hr j (by omega)); omega
    induction fuel with
    | zero =>
      intro listed p ι a w hsize hp hiff hclosed hcount hS hF hQ
      have hr : Region.ready .any ops listed = [] := by
        rw [List.eq_nil_iff_forall_not_mem]
        intro i hi
        rw [mem_ready] at hi
        obtain ⟨h1, o, ho, _⟩ := hi
        have hlt := (Array.getElem?_eq_some_iff.1 ho).1
        have : 0 < (List.range ops.size).countP (fun i => !listed.getD i true) := List.countP_pos_iff.2 ⟨i, List.mem_range.2 hlt, by rw [h1]; rfl⟩
        omega
      rw [finalH listed p hsize hr hp hiff] at hS hF hQ
      exact ⟨hr, hQ a w ι hS (.refl _ _ _) (final listed hsize hr ▸ hF)⟩
    | succ fuel ih =>
      intro listed p ι a w hsize hp hiff hclosed hcount hS hF hQ
      refine ⟨fun hr => ?_, fun i hi => ?_⟩
      · rw [finalH listed p hsize hr hp hiff] at hS hF hQ
        exact hQ a w ι hS (.refl _ _ _) (final listed hsize hr ▸ hF)
      rw [mem_ready] at hi
      obtain ⟨hun, o, ho, hall⟩ := hi
      have hlt := (Array.getElem?_eq_some_iff.1 ho).1
      have hlt' : i < listed.size := hsize ▸ hlt
      have hunf : listed.getD i false = false := by simpa [hlt'] using hun
      obtain ⟨n, hn, htr⟩ := hget i o (by simpa using ho)
      obtain ⟨hti, hdst, hguard, hd⟩ := trOp_parts htr
      have inAfter : ∀ j, j ∈ binding ops i → listed.getD j false = true := by
        intro j h2
        simp only [binding, ho, List.mem_map, List.mem_filter] at h2
        obtain ⟨e, ⟨he, hb⟩, rfl⟩ := h2
        exact hall e (by simpa using he) hb
      have hcnt : (List.range ops.size).countP (fun j => !(listed.setIfInBounds i true).getD j true) ≤ fuel := by
        have hc : (List.range ops.size).countP (fun j => !(listed.setIfInBounds i true).getD j true) < (List.range ops.size).countP (fun j => !listed.getD j true) := by
          rw [range_split hlt, List.countP_append, List.countP_append, List.countP_cons, List.countP_cons]
          have e1 : ∀ m : List Nat, i ∉ m → m.countP (fun j => !(listed.setIfInBounds i true).getD j true) = m.countP (fun j => !listed.getD j true) := by
            intro m hm
            refine List.countP_congr fun j hj => ?_
            rw [getD_set_ne (i := i) (j := j) true (by rintro rfl; exact hm hj)]
          rw [e1 (List.range i) (by simp), e1 (List.range' (i + 1) (ops.size - (i + 1))) (by rw [List.mem_range'_1]; omega), hun]
          simp [hlt']
        omega
      have hclosed' : ∀ j, (listed.setIfInBounds i true).getD j true = true → j < ops.size → ∀ k ∈ binding ops j, (listed.setIfInBounds i true).getD k false = true := by
        intro j hj hjl k hk
        by_cases hij : j = i
        · subst hij; exact getD_set_true (inAfter k hk)
        · rw [getD_set_ne true (Ne.symm hij)] at hj
          exact getD_set_true (hclosed j hj hjl k hk)
      have hil : i < l.length := by omega
      have hmix : ∀ (a' : Act) (ι' : Pos) (w' : World) (Hq : Heap), FR F ι' Hq w' ((mix l us (fun j => listed.getD j false) e0).put n.dst (us.getD i .undef)) a' nt →
          FR F ι' Hq w' (mix l us (fun j => (listed.setIfInBounds i true).getD j false) e0) a' nt := by
        intro a' ι' w' Hq hf
        have := mix_put hfacts.apart (L := fun j => listed.getD j false) (e0 := e0) (vs := us) hn (us.getD i .undef) rfl
        rw [this] at hf
        refine cast (congrArg (fun e => FR F ι' Hq w' e a' nt) ?_) hf
        congr 1
        funext j
        by_cases hij : j = i
        · subst hij; simp [hlt']
        · rw [getD_set_ne false (Ne.symm hij)]
          simp [hij]
      -- what it looks at is what it looked at in the order of the text
      have hlook : ∀ t ∈ n.tmps, mix l us (fun j => decide (j < i)) e0 t = mix l us (fun j => listed.getD j false) e0 t := by
        intro t ht
        simp only [mix]
        split
        · rename_i j hj
          obtain ⟨oj, hoj, hdj'⟩ := findIdx_some hj
          by_cases hij : i = j
          · subst hij
            rw [if_neg (by simp), if_neg (show ¬ (fun j => listed.getD j false) i = true by show ¬ listed.getD i false = true; rw [hunf]; decide)]
          · rcases hfacts.looks i j n oj t hn hoj hij hdj' ht with ⟨h1, h2⟩ | ⟨h1, h2⟩
            · rw [if_pos (by simpa using h1), if_pos (show (fun j => listed.getD j false) j = true from inAfter j h2)]
            · have : listed.getD j false = false := by
                cases hlj : listed.getD j false with
                | false => rfl
                | true =>
                  have hjl : j < ops.size := hsz ▸ (List.getElem?_eq_some_iff.1 hoj).1
                  have := hclosed j (by have := hsize ▸ hjl; simpa [this] using hlj) hjl i h2
                  rw [this] at hunf; cases hunf
              rw [if_neg (by simp; omega), if_neg (show ¬ (fun j => listed.getD j false) j = true by show ¬ listed.getD j false = true; rw [this]; decide)]
        · rfl
      -- forebears are there
      have hup : ∀ k, listed.getD k false = true → ∀ j ∈ binding ops k, listed.getD j false = true := by
        intro k hk j hj
        by_cases hkl : k < ops.size
        · exact hclosed k (by have := hsize ▸ hkl; simpa [this] using hk) hkl j hj
        · have : ¬ k < listed.size := by omega
          simp [Array.getD, this] at hk
      have hanc : ∀ k, k < l.length → (∀ j ∈ binding ops k, listed.getD j false = true) → ∀ j ∈ (ancs (binding ops) l.length).getD k [], listed.getD j false = true :=
        fun k hk h => anc_up (up := fun j => listed.getD j false) hup k hk h
      have hi' := hanc i hil inAfter
      obtain ⟨b, hb, hbf, hbt⟩ := hE.comes i n hn
      have hb' : wanted (mix l us (fun j => listed.getD j false) e0) n.guard = some b := by
        rw [← wanted_congr hlook]; exact hb
      have hnext : ∀ (p' : Nat) ι' a' w' u, p' ≤ l.length → (∀ j, j < l.length → eff j = true → ((listed.setIfInBounds i true).getD j false = true ↔ j < p')) → SR X F B ι' (Hs p') w' → Adv ι (Hs p) w ι' (Hs p') w' →
          Rel (bad F ι' (Hs p')) ι' (Hs p') w' (us.getD i .undef) u → a' = a.put o.dst u → wpAny P .any ops Q fuel (listed.setIfInBounds i true) a' w' := by
        rintro p' ι' a' w' u hp' hiff' hS' hA hr rfl
        refine ih (listed.setIfInBounds i true) p' ι' _ w' (by simpa using hsize) hp' hiff' hclosed' hcnt hS' ?_ (fun a'' w'' ι'' p1 p2 p3 => hQ a'' w'' ι'' p1 (hA.trans p2) p3)
        refine hmix _ ι' w' (Hs p') ?_
        have := (hF.adv hA).put hd hr
        rw [← hdst] at this
        rw [← hdst]; exact this
      cases hs : eff i with
      | true =>
        have hip : p ≤ i := by
          rcases Nat.lt_or_ge i p with h | h
          · have := (hiff i hil hs).2 h; rw [hunf] at this; cases this
          · exact h
        have hno : ∀ j, p ≤ j → j < i → eff j = false := by
          intro j h1 h2
          cases hs' : eff j with
          | false => rfl
          | true =>
            have := (hiff j (by omega) hs').1 (hi' j (hE.chain i j hil h2 hs hs'))
            omega
        have hHp : Hs i = Hs p := hskip p i hip (by omega) hno
        have hiff' : ∀ j, j < l.length → eff j = true → ((listed.setIfInBounds i true).getD j false = true ↔ j < i + 1) := by
          intro j hj hsj
          by_cases hij : j = i
          · subst hij; simp [hlt']
          · rw [getD_set_ne false (Ne.symm hij), hiff j hj hsj]
            constructor
            · omega
            · intro h
              rcases Nat.lt_or_ge j p with h1 | h1
              · exact h1
              · have := hno j h1 (by omega); rw [hsj] at this; cases this
        unfold wpOp
        simp only [ho]
        rw [wanted_says hF.env hguard hb']
        cases b with
        | true =>
          simp only [if_true]
          refine .inl ?_
          have hst0 := (hbt rfl).1 hs
          rw [hHp, stepI_congr (fun t ht => hlook t (by simp only [Ins.tmps, List.mem_append]; exact .inr ht)), hdst] at hst0
          obtain ⟨i0, hti', hst1⟩ : ∃ i0, trI P o.op = some i0 ∧ stepI X go π o.dst (mix l us (fun j => listed.getD j false) e0) (Hs p) i0 = some (us.getD i .undef, Hs (i + 1)) := by
            cases hx : trI P o.op with
            | none => rw [hti, hx] at hst0; cases hst0
            | some i0 => rw [hti, hx] at hst0; exact ⟨i0, rfl, hst0⟩
          exact op_does hX hgo hS (fun h => opd_rel hS hF h) hti' hst1 _ _ (fun u w' ι' q1 q2 q3 => hnext (i + 1) ι' _ w' u (by omega) hiff' q1 q2 q3 rfl)
        | false =>
          simp only [Bool.false_eq_true, if_false]
          obtain ⟨h2, h3⟩ := hbf rfl
          have e1 : Hs (i + 1) = Hs p := h3.trans hHp
          exact hnext (i + 1) ι _ w undef (by omega) hiff' (e1 ▸ hS) (by rw [e1]; exact .refl _ _ _) (by rw [h2]; exact rel_undef) rfl
      | false =>
        have hiff' : ∀ j, j < l.length → eff j = true → ((listed.setIfInBounds i true).getD j false = true ↔ j < p) := by
          intro j hj hsj
          have hij : j ≠ i := by rintro rfl; rw [hs] at hsj; cases hsj
          rw [getD_set_ne false (Ne.symm hij)]; exact hiff j hj hsj
        unfold wpOp
        simp only [ho]
        rw [wanted_says hF.env hguard hb']
        cases b with
        | true =>
          simp only [if_true]
          refine .inl ?_
          have hst0 := (hbt rfl).2 hs p hp (fun j hj hej => ⟨fun h => (hiff j hj hej).1 (hi' j h), fun h => by
            rcases Nat.lt_or_ge j p with h1 | h1
            · have hlj := (hiff j hj hej).2 h1
              have := hanc j hj (hup j hlj) i h
              rw [this] at hunf; cases hunf
            · exact h1⟩)
          rw [stepQ_congr (fun t ht => hlook t (by simp only [Ins.tmps, List.mem_append]; exact .inr ht)), hdst] at hst0
          obtain ⟨i0, hti', hst1⟩ : ∃ i0, trI P o.op = some i0 ∧ stepQ X go π o.dst (mix l us (fun j => listed.getD j false) e0) (Hs p) i0 = some (us.getD i .undef) := by
            cases hx : trI P o.op with
            | none => rw [hti, hx] at hst0; cases hst0
            | some i0 => rw [hti, hx] at hst0; exact ⟨i0, rfl, hst0⟩
          exact stepQ_does hX hgo hS (fun h => opd_rel hS hF h) hti' hst1 _ _ (fun u w' ι' q1 q2 q3 => hnext p ι' _ w' u hp hiff' q1 q2 q3 rfl)
        | false =>
          simp only [Bool.false_eq_true, if_false]
          exact hnext p ι _ w undef hp hiff' hS (.refl _ _ _) (by rw [(hbf rfl).1]; exact rel_undef) rfl
  refine main ops.size _ 0 ι a w (by simp) (Nat.zero_le _) ?_ ?_ ?_ hS (h0.symm ▸ hF) hQ
  · intro i hi _
    simp [Array.getD]
  · intro i hi hil
    simp [Array.getD] at hi
    omega
  · simpa using List.countP_le_length (p := fun i => !(Array.replicate ops.size false).getD i true) (l := List.range ops.size)
end Go.Den
