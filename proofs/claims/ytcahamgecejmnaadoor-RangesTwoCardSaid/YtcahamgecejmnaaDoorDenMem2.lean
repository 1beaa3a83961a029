/-
  Operations that make memory or write into the call's own. Its conditions: none.
-/
import Derived.Test.YtcahamgecejmnaaDoorDenMem
namespace Go.Den
open Go

variable {P : Program} {X : Ctx} {F : Nat → Prop} {B : Nat} {ι : Pos} {H : Heap} {w : World} {N : Nat → Prop}

theorem pureL_get : ∀ {cs : List AV}, AV.pureL cs = true → ∀ (i : Nat) (c : AV), cs[i]? = some c → c.pure = true
  | [], _, i, c, h => by simp at h
  | v :: r, h, i, c, hi => by
    simp only [AV.pureL, Bool.and_eq_true] at h
    cases i with
    | zero => simp at hi; subst hi; exact h.1
    | succ i => simp at hi; exact pureL_get h.2 i c hi

theorem rel_pure {x : AV} {v : Value} (h : Rel N ι H w x v) (hp : x.pure = true) : VD N w x v := by
  induction h with
  | still x v h => exact h
  | agg cs vs hl h1 _ ih => exact .agg cs vs hl h1 (fun i c v a b => ih i c v a b (pureL_get (by simpa [AV.pure] using hp) i c a))
  | tup cs vs hl _ ih => exact .tup cs vs hl (fun i c v a b => ih i c v a b (pureL_get (by simpa [AV.pure] using hp) i c a))
  | fn f cs vs hl _ ih => exact .fn f cs vs hl (fun i c v a b => ih i c v a b (pureL_get (by simpa [AV.pure] using hp) i c a))
  | iface t x v _ ih => exact .iface t x v (ih (by simpa [AV.pure] using hp))
  | own => simp [AV.pure] at hp
  | ownDead => simp [AV.pure] at hp
  | ptr => simp [AV.pure] at hp
  | ptrDead => simp [AV.pure] at hp
  | iter => simp [AV.pure] at hp
  | map => simp [AV.pure] at hp
  | mapDead => simp [AV.pure] at hp
  | junk => exact .junk _

theorem normL_eq : ∀ l : List AV, AV.normL l = l.map AV.norm
  | [] => by simp [AV.normL]
  | v :: r => by simp [AV.normL, normL_eq r]
theorem norm_len (x : AV) : x.norm.cells.length = x.cells.length := by
  cases x <;> simp [AV.norm, AV.cells, normL_eq]
theorem norm_solid (x : AV) : x.norm.solid = x.solid := by
  cases x <;> simp [AV.norm, AV.solid]
mutual
theorem norm_pure : ∀ {x : AV}, x.pure = true → x.norm.pure = true
  | .agg cs, h => by simp only [AV.pure, AV.norm] at h ⊢; exact normL_pure h
  | .tup cs, h => by simp only [AV.pure, AV.norm] at h ⊢; exact normL_pure h
  | .fn _ cs, h => by simp only [AV.pure, AV.norm] at h ⊢; exact normL_pure h
  | .iface _ v, h => by simp only [AV.pure, AV.norm] at h ⊢; exact norm_pure h
  | .zs _, _ => by simp [AV.pure, AV.norm]
  | .bool _, _ | .int _ _, _ | .str _, _ | .sl _, _ | .rp _ _, _ | .nilp, _ | .nilfn, _ | .nilmap, _ | .nilif, _ | .junk, _ => by simp [AV.pure, AV.norm]
  | .own _ _ _ _, h | .ptr _ _ _ _, h | .map _ _, h => by simp [AV.pure] at h
theorem normL_pure : ∀ {l : List AV}, AV.pureL l = true → AV.pureL (AV.normL l) = true
  | [], _ => by simp [AV.normL, AV.pureL]
  | v :: r, h => by
    simp only [AV.pureL, AV.normL, Bool.and_eq_true] at h ⊢
    exact ⟨norm_pure h.1, normL_pure h.2⟩
end
theorem norm_vd {x : AV} {v : Value} (h : VD N w x v) : VD N w x.norm v := by
  induction h with
  | zs nl a h => simp only [AV.norm]; exact .sl0 a 0 (fun _ => rfl)
  | agg cs vs hl h1 _ ih =>
    simp only [AV.norm, normL_eq]
    refine .agg _ vs (by simpa using hl) h1 (fun i c v g1 g2 => ?_)
    rw [List.getElem?_map, Option.map_eq_some_iff] at g1
    obtain ⟨c, g1, rfl⟩ := g1
    exact ih i c v g1 g2
  | tup cs vs hl _ ih =>
    simp only [AV.norm, normL_eq]
    refine .tup _ vs (by simpa using hl) (fun i c v g1 g2 => ?_)
    rw [List.getElem?_map, Option.map_eq_some_iff] at g1
    obtain ⟨c, g1, rfl⟩ := g1
    exact ih i c v g1 g2
  | fn f cs vs hl _ ih =>
    simp only [AV.norm, normL_eq]
    refine .fn f _ vs (by simpa using hl) (fun i c v g1 g2 => ?_)
    rw [List.getElem?_map, Option.map_eq_some_iff] at g1
    obtain ⟨c, g1, rfl⟩ := g1
    exact ih i c v g1 g2
  | iface t x v _ ih => simp only [AV.norm]; exact .iface t _ v ih
  | bool b => simp only [AV.norm]; exact .bool b
  | int k n => simp only [AV.norm]; exact .int k n
  | str s => simp only [AV.norm]; exact .str s
  | nilp => simp only [AV.norm]; exact .nilp
  | nilfn => simp only [AV.norm]; exact .nilfn
  | nilmap => simp only [AV.norm]; exact .nilmap
  | nilif => simp only [AV.norm]; exact .nilif
  | sl0 a c h => simp only [AV.norm]; exact .sl0 a c h
  | junk v => simp only [AV.norm]; exact .junk v
  | sl sz l b o cap vf hc hsz hw h _ => simp only [AV.norm]; exact .sl sz l b o cap vf hc hsz hw h
  | rp e j b o vf hw h _ => simp only [AV.norm]; exact .rp e j b o vf hw h

/-- A value's cells, both sides. -/
theorem cells_both {x : AV} {v : Value} (hx : Rel N ι H w x v) (hs : x.solid = true) :
    x.cells.length = v.cells.size ∧ ∀ (j : Nat) (c : AV), x.cells[j]? = some c → ∃ u, v.cells[j]? = some u ∧ one u ∧ Rel N ι H w c u ∧ (x.pure = true → VD N w c u) := by
  obtain ⟨h1, h2, h3⟩ := rel_cells hx hs
  refine ⟨h1, fun j c hc => ?_⟩
  have hlt : j < v.cells.size := by rw [← h1]; exact (List.getElem?_eq_some_iff.1 hc).1
  refine ⟨v.cells[j], Array.getElem?_eq_getElem hlt, h2 _ (by simp), h3 j c _ hc (Array.getElem?_eq_getElem hlt), fun hp => ?_⟩
  refine rel_pure (h3 j c _ hc (Array.getElem?_eq_getElem hlt)) ?_
  cases x with
  | agg cs => exact pureL_get (cs := cs) (by simpa [AV.pure] using hp) j c hc
  | _ =>
    cases j with
    | zero => simp [AV.cells] at hc; subst hc; exact hp
    | succ j => simp [AV.cells] at hc

theorem one_cell {c : AV} {u : Value} (h : Rel N ι H w c u) (ho : one u) : c.cells = [c] := by
  cases c with
  | agg cs => obtain ⟨vs, rfl, _⟩ := rel_agg h; cases ho
  | _ => rfl

theorem setFrom_get {cs xs : List AV} {off : Nat} (hl : off + xs.length ≤ cs.length) (j : Nat) : (setFrom cs off xs)[j]? = if off ≤ j ∧ j < off + xs.length then xs[j - off]? else cs[j]? := by
  unfold setFrom
  rw [List.append_assoc, List.getElem?_append]
  have l1 : (cs.take off).length = off := by simp; omega
  rw [l1]
  by_cases h1 : j < off
  · rw [if_pos h1, if_neg (by omega), List.getElem?_take, if_pos h1]
  · rw [if_neg h1, List.getElem?_append]
    by_cases h2 : j - off < xs.length
    · rw [if_pos h2, if_pos (by omega)]
    · rw [if_neg h2, if_neg (by omega), List.getElem?_drop]
      congr 1; omega
theorem setFrom_length {cs xs : List AV} {off : Nat} (hl : off + xs.length ≤ cs.length) : (setFrom cs off xs).length = cs.length := by
  unfold setFrom; simp; omega

theorem like_cells {e : AV} {cs : List AV} (hl : cs.length = e.cells.length) (h1 : ∀ c, cs = [c] → c.cells = [c]) : (like e cs).cells = cs := by
  cases e with
  | agg ds => rfl
  | _ =>
    cases cs with
    | nil => simp [AV.cells] at hl
    | cons c r => cases r with
      | nil => exact h1 c rfl
      | cons d r => simp [AV.cells] at hl

/-! ### a new variable -/
theorem box_says {π : Key} {d : Nat} {t sz : Nat} {x : AV} {v : Value} (hS : SR X F B ι H w) (hx : Rel (bad F ι H) ι H w x v) (hc : x.cells.length = sz) (hs : x.solid = true) (h0 : 0 < sz) :
    ∃ u w' ι', (Instr.box t v).run P w = .ok u w' ∧ SR X F B ι' (fresh H (d :: π) ⟨false, false, sz, [x]⟩) w' ∧ Adv ι H w ι' (fresh H (d :: π) ⟨false, false, sz, [x]⟩) w' ∧
      Rel (bad F ι' (fresh H (d :: π) ⟨false, false, sz, [x]⟩)) ι' (fresh H (d :: π) ⟨false, false, sz, [x]⟩) w' (.ptr (d :: π) ((H (d :: π)).1 + 1) 0 0) u := by
  obtain ⟨hl, hcells⟩ := cells_both hx hs
  obtain ⟨hS', hA'⟩ := hS.put (d :: π) ((H (d :: π)).1 + 1) ⟨false, false, sz, [x]⟩ (w.heap.size, v.cells.size) (w.alloc (.cells v.cells t)) v.cells t (.inl (Nat.lt_succ_self _)) (.inr (Nat.le_refl _)) rfl rfl rfl
    (by simp) (Nat.pos_iff_ne_zero.1 h0) (fun b hb _ => heap_alloc_old w _ b hb) (heap_alloc_new w _) rfl (by simp; omega) (by simpa using hc)
    (fun i e j c h1 h2 => by
      cases i with
      | zero =>
        simp at h1; subst h1
        obtain ⟨u, hu, ho, hr, hv⟩ := hcells j c h2
        exact ⟨u, by simpa using hu, ho, hr, fun q => by cases q⟩
      | succ i => simp at h1)
  refine ⟨_, _, _, rfl, hS', hA', ?_⟩
  have hlive : (fresh H (d :: π) ⟨false, false, sz, [x]⟩).live (d :: π) ((H (d :: π)).1 + 1) = some ⟨false, false, sz, [x]⟩ := by simp [fresh, Heap.live, Heap.set]
  have := Rel.ptr (N := bad F (ι.set (d :: π) (w.heap.size, v.cells.size)) (fresh H (d :: π) ⟨false, false, sz, [x]⟩)) (ι := ι.set (d :: π) (w.heap.size, v.cells.size)) (H := fresh H (d :: π) ⟨false, false, sz, [x]⟩) (w := w.alloc (.cells v.cells t))
    (d :: π) ((H (d :: π)).1 + 1) 0 0 ⟨false, false, sz, [x]⟩ x hlive (Nat.pos_iff_ne_zero.1 h0) rfl
  simpa [Pos.set] using this

/-! ### a store -/
theorem store_says {t : TypeId} {sz : Nat} (hs : sizeT P t = some sz) {a x : AV} {v u : Value} {H' : Heap} (hS : SR X F B ι H w) (ha : Rel (bad F ι H) ι H w a v) (hx : Rel (bad F ι H) ι H w x u)
    (h : storeA H sz a x = some H') : ∃ w' ι', (Instr.storeAt t v u).run P w = .ok () w' ∧ SR X F B ι' H' w' ∧ Adv ι H w ι' H' w' := by
  cases a with
  | ptr k ver i j =>
    simp only [storeA] at h
    split at h
    · rename_i b hb
      split at h
      · rename_i e he
        split at h
        · rename_i hc
          obtain ⟨hfz, hc1, hc2, hc3, hc4⟩ := hc
          obtain rfl := Option.some.inj h
          obtain ⟨hver, hb2⟩ := live_some hb
          obtain ⟨hx, hc1, hc2, hc4⟩ : Rel (bad F ι H) ι H w (if b.still = true then x.norm else x) u ∧ (if b.still = true then x.norm else x).cells.length = sz ∧ (if b.still = true then x.norm else x).solid = true ∧
              (b.still = true → (if b.still = true then x.norm else x).pure = true) := by
            split
            · rename_i hst
              exact ⟨.still _ _ (norm_vd (rel_pure hx (hc4 hst))), (norm_len x).trans hc1, (norm_solid x).trans hc2, fun _ => norm_pure (hc4 hst)⟩
            · rename_i hst
              exact ⟨hx, hc1, hc2, fun h => absurd h hst⟩
          generalize (if b.still = true then x.norm else x) = x at hx hc1 hc2 hc4 ⊢
          obtain ⟨hl, hcells⟩ := cells_both hx hc2
          cases ha with
          | still _ _ hv => cases hv
          | ptrDead _ _ _ _ _ _ _ h2 => rw [h2] at hb; cases hb
          | iter _ _ _ _ b' hb' _ hi => obtain rfl : b' = b := Option.some.inj (hb'.symm.trans hb); have := (List.getElem?_eq_some_iff.1 he).1; omega
          | ptr _ _ _ _ b' e' hb' h0 he' =>
            obtain rfl : b' = b := Option.some.inj (hb'.symm.trans hb)
            obtain ⟨cs, T, hB⟩ := hS.blk k b' hb2 h0
            have hi : i < b'.es.length := (List.getElem?_eq_some_iff.1 he).1
            have hel : e.cells.length = b'.sz := hB.es e (List.mem_of_getElem? he)
            have hvl : u.cells.toList.length = sz := by simp; omega
            have hfit : i * b'.sz + j + 0 + u.cells.toList.length ≤ cs.size := by
              have h1 : (i + 1) * b'.sz ≤ b'.es.length * b'.sz := Nat.mul_le_mul_right _ hi
              have h2 := hB.room
              have h3 := hB.size
              rw [Nat.add_mul] at h1
              omega
            have hone : ∀ z ∈ u.cells.toList, one z := (rel_cells hx hc2).2.1
            obtain ⟨w', cs', hrun, hst⟩ := run_storeCells (P := P) (ι k).1 T u.cells.toList w cs (i * b'.sz + j) 0 hB.row hone hfit
            have hlen : (setFrom e.cells j x.cells).length = e.cells.length := setFrom_length (by omega)
            have hget := setFrom_get (cs := e.cells) (xs := x.cells) (off := j) (by omega)
            have hnew : ∀ (m : Nat) (c : AV), (setFrom e.cells j x.cells)[m]? = some c → ∃ z, cs'[i * b'.sz + m]? = some z ∧ one z ∧ Rel (bad F ι H) ι H w c z ∧ (b'.still = true → VD (bad F ι H) w c z) := by
              intro m c hm
              rw [hget m] at hm
              rw [hst.cell (i * b'.sz + m)]
              by_cases hin : j ≤ m ∧ m < j + x.cells.length
              · rw [if_pos hin] at hm
                obtain ⟨z, hz, ho, hr, hv⟩ := hcells (m - j) c hm
                refine ⟨z, ?_, ho, hr, fun q => hv (hc4 q)⟩
                rw [if_pos (by omega)]
                rw [show i * b'.sz + m - (i * b'.sz + j + 0) = m - j by omega]
                simpa using hz
              · rw [if_neg hin] at hm
                obtain ⟨z, hz, ho, hr, hv⟩ := hB.cell i e m c he hm
                have hmlt : m < e.cells.length := (List.getElem?_eq_some_iff.1 hm).1
                refine ⟨z, ?_, ho, hr, hv⟩
                rw [if_neg (by omega)]
                exact hz
            have hlike : (like e (setFrom e.cells j x.cells)).cells = setFrom e.cells j x.cells := by
              refine like_cells hlen (fun c hc => ?_)
              obtain ⟨z, _, ho, hr, _⟩ := hnew 0 c (by rw [hc]; rfl)
              exact one_cell hr ho
            obtain ⟨hS', hA'⟩ := hS.put k ver { b' with es := b'.es.set i (like e (setFrom e.cells j x.cells)) } (ι k) w' cs' T
              (.inr ⟨hver, b', hb2, rfl, rfl, by simp⟩) (.inl ⟨b', hb2, hfz, rfl⟩) hst.os hst.tape hst.output (Nat.le_of_eq hst.size.symm) h0 (fun b0 _ hne => hst.keep b0 hne) hst.row (hst.n.trans hB.size)
              (by simpa using hB.room)
              (fun e0 he0 => by
                rcases List.mem_or_eq_of_mem_set he0 with h1 | h1
                · exact hB.es e0 h1
                · rw [h1, hlike, hlen]; exact hel)
              (fun i0 e0 j0 c0 h1 h2 => by
                simp only [List.getElem?_set] at h1
                by_cases hii : i = i0
                · subst hii
                  rw [if_pos rfl, if_pos hi] at h1
                  obtain rfl := Option.some.inj h1
                  rw [hlike] at h2
                  exact hnew j0 c0 h2
                · rw [if_neg hii] at h1
                  obtain ⟨z, hz, ho, hr, hv⟩ := hB.cell i0 e0 j0 c0 h1 h2
                  refine ⟨z, ?_, ho, hr, hv⟩
                  rw [hst.cell]
                  have hj0 : j0 < b'.sz := by rw [← hB.es e0 (List.mem_of_getElem? h1)]; exact (List.getElem?_eq_some_iff.1 h2).1
                  rw [if_neg]
                  · exact hz
                  · intro hin
                    dsimp only at hin
                    rcases Nat.lt_or_gt_of_ne hii with hlt | hlt
                    · have : (i + 1) * b'.sz ≤ i0 * b'.sz := Nat.mul_le_mul_right _ hlt
                      rw [Nat.add_mul] at this; omega
                    · have : (i0 + 1) * b'.sz ≤ i * b'.sz := Nat.mul_le_mul_right _ hlt
                      rw [Nat.add_mul] at this; omega)
            refine ⟨w', _, ?_, hS', hA'⟩
            simp only [Instr.storeAt, Instr.sureAddr, Sem.run_bind, Sem.run_pure, Result.andThen_ok, storeVar, run_sizeOf hs]
            rw [if_neg (by simp; omega)]
            exact hrun
        · cases h
      · cases h
    · cases h
  | _ => cases h

end Go.Den
