/-
  Code and calls do what the functional reading says. Its conditions: CtxOK.
-/
import Derived.Test.YtcahamgecejmnaaDoorDenEff2
namespace Go.Den
open Go
open Go.RowKit (Below)

variable {P : Program} {X : Ctx} {F : Nat → Prop} {B : Nat} {ι : Pos} {H : Heap} {w : World} {N : Nat → Prop}

theorem ops_says (hX : CtxOK P X) {go : Nat → List AV → Key → Heap → Option (AV × Heap)} (hgo : GoSound P X go) {π : Key} {nt : Nat} {ops : Array Oper} {Q : Exit → Act → World → Prop} :
    ∀ (l : List Oper) (k : Nat) (ins : List Ins) (s s' : St) (ι : Pos) (a : Act) (w : World), ops.toList.drop k = l → trOps P nt ops l = some ins → runOps X go π ins s = some s' →
      SR X F B ι s.H w → FR F ι s.H w s.env a nt →
      (∀ a' w' ι', SR X F B ι' s'.H w' → Adv ι s.H w ι' s'.H w' → FR F ι' s'.H w' s'.env a' nt → Q .normal a' w') → wpOps P ops Q (List.range' k l.length) a w
  | [], k, ins, s, s', ι, a, w, hl, htr, hrun, hS, hF, hQ => by
    obtain rfl := Option.some.inj htr
    obtain rfl := Option.some.inj hrun
    exact hQ a w ι hS (.refl _ _ _) hF
  | o :: l, k, ins, s, s', ι, a, w, hl, htr, hrun, hS, hF, hQ => by
    simp only [trOps] at htr
    split at htr
    · rename_i i is h1 h2
      obtain rfl := Option.some.inj htr
      have hk : ops[k]? = some o := by
        have : ops.toList[k]? = some o := by
          have := congrArg (·[0]?) hl
          simpa [List.getElem?_drop] using this
        simpa using this
      have hl' : ops.toList.drop (k + 1) = l := by
        have := congrArg (·.drop 1) hl
        simpa [List.drop_drop, Nat.add_comm] using this
      unfold trOp at h1
      split at h1
      · rename_i hd
        · obtain rfl := Option.some.inj h1
          have hdst : ∀ d, o.dst = some d → d < nt := by
            intro d e
            rw [e] at hd
            simpa [dstOK] using hd
          simp only [List.length_cons, List.range'_succ, wpOps, hk]
          simp only [runOps] at hrun
          split at hrun
          · rename_i hw
            rw [wanted_says hF.env rfl hw]
            simp only [if_true]
            split at hrun
            · rename_i v H1 hst
              obtain ⟨i0, hi, hst⟩ : ∃ i0, trI P o.op = some i0 ∧ stepI X go π o.dst s.env s.H i0 = some (v, H1) := by
                cases hi : trI P o.op with
                | none => simp only [hi, Option.getD_none] at hst; cases hst
                | some i0 => exact ⟨i0, rfl, by simpa only [hi, Option.getD_some] using hst⟩
              refine .inl ?_
              refine op_does hX hgo hS (fun h => opd_rel hS hF h) hi hst _ _ (fun u w' ι' q1 q2 q3 => ?_)
              refine ops_says hX hgo l (k + 1) is ⟨s.env.put o.dst v, H1⟩ s' ι' (a.put o.dst u) w' hl' h2 hrun q1 ((hF.adv q2).put hdst q3) (fun a' w'' ι'' p1 p2 p3 => hQ a' w'' ι'' p1 (q2.trans p2) p3)
            · cases hrun
          · rename_i hw
            rw [wanted_says hF.env rfl hw]
            simp only [Bool.false_eq_true, if_false]
            exact ops_says hX hgo l (k + 1) is ⟨s.env.put o.dst .undef, s.H⟩ s' ι (a.put o.dst undef) w hl' h2 hrun hS (hF.put hdst rel_undef) hQ
          · cases hrun
      · cases h1
    · cases htr

def Ex.toExit : Ex → Exit
  | .normal => .normal
  | .exit id => .exit id
  | .ret => .ret

theorem iter_says {f : St → Option (Ex × St)} {c : Code} {nt : Nat}
    (hf : ∀ (s s' : St) (ex : Ex) (Q : Exit → Act → World → Prop) (ι : Pos) (a : Act) (w : World), f s = some (ex, s') → SR X F B ι s.H w → FR F ι s.H w s.env a nt →
      (∀ a' w' ι', SR X F B ι' s'.H w' → Adv ι s.H w ι' s'.H w' → FR F ι' s'.H w' s'.env a' nt → Q ex.toExit a' w') → c.wp P Q a w) (Q : Exit → Act → World → Prop) :
    ∀ (n : Nat) (s s' : St) (ex : Ex) (ι : Pos) (a : Act) (w : World), iter f n s = some (ex, s') → SR X F B ι s.H w → FR F ι s.H w s.env a nt →
      (∀ a' w' ι', SR X F B ι' s'.H w' → Adv ι s.H w ι' s'.H w' → FR F ι' s'.H w' s'.env a' nt → Q ex.toExit a' w') → Code.rounds P c Q n a w
  | 0, _, _, _, _, _, _, h, _, _, _ => by cases h
  | n + 1, s, s', ex, ι, a, w, h, hS, hF, hQ => by
    simp only [iter] at h
    rw [rounds_succ]
    split at h
    · rename_i s1 h1
      refine hf s s1 .normal _ ι a w h1 hS hF (fun a' w' ι' q1 q2 q3 => ?_)
      exact iter_says hf Q n s1 s' ex ι' a' w' h q1 q3 (fun a'' w'' ι'' p1 p2 p3 => hQ a'' w'' ι'' p1 (q2.trans p2) p3)
    · rename_i hne
      refine hf s s' ex _ ι a w h hS hF (fun a' w' ι' q1 q2 q3 => ?_)
      have := hQ a' w' ι' q1 q2 q3
      cases ex with
      | normal => exact absurd h (hne s')
      | exit id => exact this
      | ret => exact this

theorem exec_says (hX : CtxOK P X) {go : Nat → List AV → Key → Heap → Option (AV × Heap)} (hgo : GoSound P X go) {k : Nat} {π : Key} {nt : Nat} :
    ∀ (c : Code) (c' : C), trC P nt c = some c' → ∀ (s s' : St) (ex : Ex) (Q : Exit → Act → World → Prop) (ι : Pos) (a : Act) (w : World), exec X go k π c' s = some (ex, s') → SR X F B ι s.H w → FR F ι s.H w s.env a nt →
      (∀ a' w' ι', SR X F B ι' s'.H w' → Adv ι s.H w ι' s'.H w' → FR F ι' s'.H w' s'.env a' nt → Q ex.toExit a' w') → c.wp P Q a w := by
  intro c
  induction c with
  | skip =>
    intro c' htr s s' ex Q ι a w h hS hF hQ
    obtain rfl := Option.some.inj htr
    obtain ⟨rfl, rfl⟩ := Prod.mk.inj (Option.some.inj h)
    exact wp_skip (hQ a w ι hS (.refl _ _ _) hF)
  | region id ops draw =>
    intro c' htr s s' ex Q ι a w h hS hF hQ
    simp only [trC] at htr
    split at htr
    · rename_i hd
      subst hd
      split at htr
      · rename_i l hl
        split at htr
        · rename_i hD
          have hAd : Adv ι s.H w ι s.H { w with drawn := w.drawn + 1 } := ⟨rfl, rfl, rfl, Nat.le_refl _, fun _ _ _ => rfl, fun k bl h1 h2 => .inl ⟨k, bl, h1, h2, rfl⟩, fun _ => Nat.le_refl _, fun _ b' _ h => ⟨b', h, rfl, rfl, rfl⟩⟩
          have hS' : SR X F B ι s.H { w with drawn := w.drawn + 1 } :=
            ⟨hS.inj, hS.base, hS.fb, hS.szB, fun k b hk hz => (let ⟨cs, T, hB⟩ := hS.blk k b hk hz; ⟨cs, T, hB.adv hAd rfl⟩), fun k b hk hz => (hS.obj k b hk hz).keep rfl, fun n v hg => (hS.glob n v hg).mono hAd.later⟩
          obtain rfl := Option.some.inj htr
          have drawn : exec X go k π (.dreg l) s = some (ex, s') → (Code.region id ops true).wp P Q a w := by
            intro h
            simp only [exec] at h
            split at h
            · rename_i e1 he
              obtain ⟨rfl, rfl⟩ := Prod.mk.inj (Option.some.inj h)
              exact wp_region_any hX.mixed (draw_says hX hgo hl hD he hS' (hF.adv hAd) (fun a' w' ι' q1 q2 q3 => hQ a' w' ι' q1 (hAd.trans q2) q3))
            · cases h
          have eff : ∀ c, chainOK l (ancs (binding ops) l.length) c = true → exec X go k π (.ereg (annot l (ancs (binding ops) l.length) c)) s = some (ex, s') → (Code.region id ops true).wp P Q a w := by
            intro c hC h
            simp only [exec] at h
            split at h
            · rename_i s1 he
              obtain ⟨rfl, rfl⟩ := Prod.mk.inj (Option.some.inj h)
              exact wp_region_any hX.mixed (eff_says hX hgo hl hD hC he hS' (hF.adv hAd) (fun a' w' ι' q1 q2 q3 => hQ a' w' ι' q1 (hAd.trans q2) q3))
            · cases h
          unfold drawC at h
          split at h
          · split at h
            · rename_i hC; exact eff true hC h
            · split at h
              · split at h
                · rename_i hC; exact eff false hC h
                · cases h
              · exact drawn h
          · exact drawn h
        · obtain rfl := Option.some.inj htr; cases h
      · cases htr
    · rename_i hd
      split at htr
      · rename_i l hl
        obtain rfl := Option.some.inj htr
        simp only [exec] at h
        split at h
        · rename_i s1 hs
          obtain ⟨rfl, rfl⟩ := Prod.mk.inj (Option.some.inj h)
          have hdf : draw = false := by simpa using hd
          subst hdf
          refine wp_region ?_
          have := ops_says hX hgo (Q := Q) ops.toList 0 l s s1 ι a w rfl hl hs hS hF hQ
          rw [List.range_eq_range']
          simpa using this
        · cases h
      · cases htr
  | seq x y ihx ihy =>
    intro c' htr s s' ex Q ι a w h hS hF hQ
    simp only [trC] at htr
    split at htr
    · rename_i x' y' hx hy
      obtain rfl := Option.some.inj htr
      simp only [exec] at h
      refine wp_seq ?_
      split at h
      · rename_i s1 h1
        refine ihx x' hx s s1 .normal _ ι a w h1 hS hF (fun a' w' ι' q1 q2 q3 => ?_)
        exact ihy y' hy s1 s' ex Q ι' a' w' h q1 q3 (fun a'' w'' ι'' p1 p2 p3 => hQ a'' w'' ι'' p1 (q2.trans p2) p3)
      · rename_i hne
        refine ihx x' hx s s' ex _ ι a w h hS hF (fun a' w' ι' q1 q2 q3 => ?_)
        have := hQ a' w' ι' q1 q2 q3
        cases ex with
        | normal => exact absurd h (hne s')
        | exit id => exact this
        | ret => exact this
    · cases htr
  | cond g x y ihx ihy =>
    intro c' htr s s' ex Q ι a w h hS hF hQ
    simp only [trC] at htr
    split at htr
    · rename_i x' y' hx hy
      split at htr
      · rename_i g' hg
        obtain rfl := Option.some.inj htr
        simp only [exec] at h
        split at h
        · rename_i t ht
          have hgr := opd_rel hS hF hg
          rw [ht] at hgr
          refine wp_cond (rel_bool hgr) ?_
          cases t with
          | true => exact ihx x' hx s s' ex Q ι a w (by simpa using h) hS hF hQ
          | false => exact ihy y' hy s s' ex Q ι a w (by simpa using h) hS hF hQ
        · cases h
      · obtain rfl := Option.some.inj htr; cases h
    · cases htr
  | block id x ihx =>
    intro c' htr s s' ex Q ι a w h hS hF hQ
    simp only [trC] at htr
    split at htr
    · rename_i x' hx
      obtain rfl := Option.some.inj htr
      simp only [exec] at h
      refine wp_block ?_
      split at h
      · rename_i j s1 h1
        split at h
        · rename_i hj
          obtain ⟨rfl, rfl⟩ := Prod.mk.inj (Option.some.inj h)
          refine ihx x' hx s s1 (.exit j) _ ι a w h1 hS hF (fun a' w' ι' q1 q2 q3 => ?_)
          show Exit.inBlock id Q (.exit j) a' w'
          simp only [Exit.inBlock, if_pos hj]
          exact hQ a' w' ι' q1 q2 q3
        · rename_i hj
          obtain ⟨rfl, rfl⟩ := Prod.mk.inj (Option.some.inj h)
          refine ihx x' hx s s1 (.exit j) _ ι a w h1 hS hF (fun a' w' ι' q1 q2 q3 => ?_)
          show Exit.inBlock id Q (.exit j) a' w'
          simp only [Exit.inBlock, if_neg hj]
          exact hQ a' w' ι' q1 q2 q3
      · rename_i hne
        refine ihx x' hx s s' ex _ ι a w h hS hF (fun a' w' ι' q1 q2 q3 => ?_)
        have := hQ a' w' ι' q1 q2 q3
        cases ex with
        | normal => exact this
        | exit j => exact absurd h (hne j s')
        | ret => exact this
    · cases htr
  | loop x ihx =>
    intro c' htr s s' ex Q ι a w h hS hF hQ
    simp only [trC] at htr
    split at htr
    · rename_i x' hx
      obtain rfl := Option.some.inj htr
      simp only [exec] at h
      exact wp_loop_rounds k (iter_says (P := P) (fun s s' ex Q ι a w h => ihx x' hx s s' ex Q ι a w h) Q k s s' ex ι a w h hS hF hQ)
    · cases htr
  | exit id =>
    intro c' htr s s' ex Q ι a w h hS hF hQ
    obtain rfl := Option.some.inj htr
    obtain ⟨rfl, rfl⟩ := Prod.mk.inj (Option.some.inj h)
    exact wp_exit (hQ a w ι hS (.refl _ _ _) hF)
  | ret =>
    intro c' htr s s' ex Q ι a w h hS hF hQ
    obtain rfl := Option.some.inj htr
    obtain ⟨rfl, rfl⟩ := Prod.mk.inj (Option.some.inj h)
    exact wp_ret (hQ a w ι hS (.refl _ _ _) hF)
  | _ =>
    intro c' htr s s' ex Q ι a w h
    obtain rfl := Option.some.inj htr
    cases h

/-! ### results, and the call -/
def resOf (a : Act) : ResultVar → Sem Value
  | .tmp t => Pure.pure (a.tmps.getD t undef)
  | .cell c t => do loadVar t (← asAddr (a.tmps.getD c undef))

theorem result1_says {s : St} {a : Act} {nt : Nat} (hS : SR X F B ι s.H w) (hF : FR F ι s.H w s.env a nt) {rv : ResultVar} {rs : List ResultVar} {ls : List Res} (htr : trRes P (rv :: rs) = some ls) :
    ∃ l ls', ls = l :: ls' ∧ trRes P rs = some ls' ∧ ∀ r, result1 s l = some r → ∃ v, Rel (bad F ι s.H) ι s.H w r v ∧
      (resOf a rv).run P w = .ok v w := by
  cases rv with
  | tmp t =>
    simp only [trRes] at htr
    split at htr
    · rename_i l hl
      obtain rfl := Option.some.inj htr
      refine ⟨.t t, l, rfl, hl, fun r hr => ?_⟩
      obtain rfl := Option.some.inj hr
      exact ⟨_, hF.env t, rfl⟩
    · cases htr
  | cell c t =>
    simp only [trRes] at htr
    split at htr
    · rename_i g sz l hg hs hl
      obtain rfl := Option.some.inj htr
      refine ⟨.cell c sz g, l, rfl, hl, fun r hr => ?_⟩
      simp only [result1] at hr
      obtain ⟨u, hu, hrun⟩ := load_says (P := P) hg hs hS (hF.env c) hr
      refine ⟨u, hu, ?_⟩
      have h1 := hrun w (Same.refl w)
      -- the address is there
      obtain ⟨ad, had⟩ : ∃ ad, a.tmps.getD c undef = .pointer (some ad) := by
        cases hv : a.tmps.getD c undef with
        | pointer p => cases p with
          | some ad => exact ⟨ad, rfl⟩
          | none => rw [hv] at h1; simp [Instr.loadAt, Instr.sureAddr] at h1
        | _ => rw [hv] at h1; simp [Instr.loadAt, Instr.sureAddr] at h1
      rw [had] at h1
      simp only [resOf, had]
      simpa [Instr.loadAt, Instr.sureAddr, asAddr] using h1
    · cases htr

theorem resultL_says {s : St} {a : Act} {nt : Nat} (hS : SR X F B ι s.H w) (hF : FR F ι s.H w s.env a nt) : ∀ (rs : List ResultVar) (ls : List Res) (vs : List AV), trRes P rs = some ls → resultL s ls = some vs →
    ∃ us, All2 (Rel (bad F ι s.H) ι s.H w) vs us ∧ (rs.mapM (m := Sem) (resOf a)).run P w = .ok us w
  | [], ls, vs, htr, h => by
    obtain rfl := Option.some.inj htr
    obtain rfl := Option.some.inj h
    exact ⟨[], .nil, rfl⟩
  | rv :: rs, ls, vs, htr, h => by
    obtain ⟨l, ls', rfl, h1, h2⟩ := result1_says hS hF htr
    simp only [resultL] at h
    split at h
    · rename_i v vs' e1 e2
      obtain rfl := Option.some.inj h
      obtain ⟨u, hu, hrun⟩ := h2 v e1
      obtain ⟨us, hus, hrun'⟩ := resultL_says hS hF rs ls' vs' h1 e2
      refine ⟨u :: us, .cons hu hus, ?_⟩
      simp only [List.mapM_cons, Sem.run_bind]
      rw [hrun]
      simp only [Result.andThen_ok, hrun', Sem.run_pure]
    · cases h

theorem result_says {s : St} {a : Act} {nt : Nat} (hS : SR X F B ι s.H w) (hF : FR F ι s.H w s.env a nt) {fn : Func} {ls : List Res} (htr : trRes P fn.results.toList = some ls) {r : AV} (h : result s ls = some r) :
    ∃ v, Rel (bad F ι s.H) ι s.H w r v ∧ (results fn a.tmps).run P w = .ok v w := by
  unfold result at h
  have main : ∀ vs, resultL s ls = some vs → ∃ us : List Value, All2 (Rel (bad F ι s.H) ι s.H w) vs us ∧ (results fn a.tmps).run P w = .ok (if h : us.toArray.size = 1 then us.toArray[0] else .tuple us.toArray) w := by
    intro vs hvs
    obtain ⟨us, h1, h2⟩ := resultL_says hS hF fn.results.toList ls vs htr hvs
    refine ⟨us, h1, ?_⟩
    have e1 : results fn a.tmps = (do let vs ← fn.results.mapM (resOf a); pure (if h : vs.size = 1 then vs[0] else .tuple vs)) := by
      unfold results
      congr 1
    rw [e1, Array.mapM_eq_mapM_toList]
    simp only [Sem.run_bind, Sem.run_map, h2]
    simp only [Result.andThen_ok, Sem.run_pure]
  split at h
  · rename_i v hv
    obtain rfl := Option.some.inj h
    obtain ⟨us, h1, h2⟩ := main _ hv
    cases h1 with
    | cons q1 q2 =>
      cases q2
      exact ⟨_, q1, by simpa using h2⟩
  · rename_i vs hne hv
    obtain rfl := Option.some.inj h
    obtain ⟨us, h1, h2⟩ := main _ hv
    refine ⟨.tuple us.toArray, .tup vs us h1.length h1.get, ?_⟩
    rw [h2, dif_neg]
    intro hs
    have : vs.length = 1 := by rw [h1.length]; simpa using hs
    match vs, this with
    | [v], _ => exact hne v rfl
  · cases h

theorem call_sound (hX : CtxOK P X) : ∀ k, GoSound P X (call X k)
  | 0 => fun f args π H r H' h => by cases h
  | k + 1 => by
    intro f args π H r H' h
    simp only [call] at h
    split at h
    · cases h
    · rename_i fd hfd
      have htr := hX.code f fd hfd
      unfold trF at htr
      split at htr
      · rename_i fn hfn
        split at htr
        · rename_i c hc
          split at htr
          · cases htr
          · rename_i hname
            split at htr
            · rename_i c' rs h1 h2
              obtain rfl := Option.some.inj htr
              refine ⟨⟨fn, hfn, by rw [hc]; rfl, by simpa using hname⟩, fun F B ι w vs hS ha => ?_⟩
              have fin : ∀ (s : St) (ex : Ex), (ex = .normal ∨ ex = .ret) → exec X (call X k) k π c' ⟨initEnv args, H⟩ = some (ex, s) → result s rs = some r → s.H = H' → Calls P f vs.toArray w (Post X F B ι H w r H') := by
                intro s ex hex he hr hH
                refine calls_of_wp hfn hc ?_
                refine exec_says hX (call_sound hX k) c c' h1 ⟨initEnv args, H⟩ s ex _ ι _ w he hS ⟨?_, rfl, fun t => ?_⟩ (fun a' w' ι' q1 q2 q3 => ?_)
                · simp; omega
                · simp only [initEnv]
                  by_cases ht : t < args.length
                  · have ht' : t < vs.length := by rw [← ha.length]; exact ht
                    have e1 : (vs.toArray ++ Array.replicate (fn.ntmps - vs.toArray.size) undef).getD t undef = vs[t] := by
                      simp [Array.getD_eq_getD_getElem?, Array.getElem?_append, ht']
                    rw [e1, List.getElem?_eq_getElem ht]
                    exact ha.get t _ _ (List.getElem?_eq_getElem ht) (List.getElem?_eq_getElem ht')
                  · have ht' : ¬ t < vs.length := by rw [← ha.length]; exact ht
                    have e1 : (vs.toArray ++ Array.replicate (fn.ntmps - vs.toArray.size) undef).getD t undef = undef := by
                      simp only [Array.getD_eq_getD_getElem?, Array.getElem?_append, List.size_toArray, ht', if_false, Array.getElem?_replicate]
                      split <;> rfl
                    rw [e1, List.getElem?_eq_none (Nat.le_of_not_lt ht)]
                    exact rel_undef
                · obtain ⟨v, hv, hrun⟩ := result_says (P := P) q1 q3 h2 hr
                  have post : Post X F B ι H w r H' (.returned v) w' := ⟨v, ι', rfl, hH ▸ q1, hH ▸ q2, hH ▸ hv⟩
                  rcases hex with rfl | rfl
                  · exact ⟨q3.defers, v, hrun, post⟩
                  · exact ⟨q3.defers, v, hrun, post⟩
              split at h
              · rename_i s he
                split at h
                · rename_i v hr
                  obtain ⟨rfl, hH⟩ := Prod.mk.inj (Option.some.inj h)
                  exact fin s .normal (.inl rfl) he hr hH
                · cases h
              · rename_i s he
                split at h
                · rename_i v hr
                  obtain ⟨rfl, hH⟩ := Prod.mk.inj (Option.some.inj h)
                  exact fin s .ret (.inr rfl) he hr hH
                · cases h
              · cases h
            · cases htr
        · cases htr
      · cases htr

/-- **What a law's call answers.** -/
theorem law_says (hX : CtxOK P X) {k f : Nat} {args : List AV} {b : Bool} {H' : Heap} (h : call X k f args [] Heap.none = some (.bool b, H')) {vs : List Value} {w : World} (ha : All2 (VD (fun _ => False) w) args vs)
    (hg : ∀ n v, X.glob n = some v → VD (fun _ => False) w (.rp v 0) (.pointer (some ⟨n, 0, none⟩))) :
    Calls P f vs.toArray w (fun e w' => e = .returned (.bool b) ∧ Below w.heap.size w w') := by
  have hnone : ∀ b, ¬ bad (fun _ => False) (fun _ => (0, 0)) Heap.none b := fun b hb => (bad_none.1 hb).elim
  have hS : SR X (fun _ => False) w.heap.size (fun _ => (0, 0)) Heap.none w :=
    ⟨fun k _ hk => (by cases hk), fun k hk => (by cases hk), fun b hb => hb.elim, Nat.le_refl _, fun k b hk => (by cases hk), fun k b hk => (by cases hk), fun n v h => (hg n v h).mono (fun b _ _ => ⟨hnone b, rfl⟩)⟩
  refine ((call_sound hX k f args [] Heap.none (.bool b) H' h).2 (fun _ => False) w.heap.size (fun _ => (0, 0)) w vs hS (ha.imp (fun x v hv => .still _ _ (hv.mono (fun b _ _ => ⟨hnone b, rfl⟩))))).mono ?_
  rintro e w' ⟨v, ι', rfl, _, hA, hr⟩
  exact ⟨by rw [rel_bool hr], adv_below hA (fun _ => rfl)⟩
#print axioms law_says

end Go.Den
