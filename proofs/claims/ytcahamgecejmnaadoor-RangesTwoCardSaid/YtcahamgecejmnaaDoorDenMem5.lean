/-
  Literals. Its conditions: none.
-/
import Derived.Test.YtcahamgecejmnaaDoorDenMem4
namespace Go.Den
open Go

variable {P : Program} {X : Ctx} {F : Nat → Prop} {B : Nat} {ι : Pos} {H : Heap} {w : World} {N : Nat → Prop}

theorem vd_cell {x : AV} {v : Value} (h : VD N w x v) (hs : x.solid = true) {j : Nat} {c : AV} {u : Value} (hc : x.cells[j]? = some c) (hu : v.cells[j]? = some u) : VD N w c u := by
  have h0 := h
  cases h with
  | agg cs vs hl h1 h => exact h j c u (by simpa [AV.cells] using hc) (by simpa [Value.cells] using hu)
  | tup => cases hs
  | junk => cases hs
  | _ =>
    cases j with
    | zero => simp [AV.cells] at hc; simp [Value.cells] at hu; subst hc; subst hu; exact h0
    | succ j => simp [AV.cells] at hc

theorem run_places (fs : List Field) (h : ∀ f ∈ fs, (sizeT P f.type).isSome = true) (w' : World) :
    (fs.mapM (m := Sem) fun f => do pure (f.offset, ← sizeOf f.type)).run P w' = .ok (fs.map fun f => (f.offset, (sizeT P f.type).getD 0)) w' := by
  induction fs with
  | nil => rfl
  | cons f fs ih =>
    obtain ⟨s, hs⟩ := Option.isSome_iff_exists.1 (h f List.mem_cons_self)
    simp only [List.mapM_cons, Sem.run_bind, run_sizeOf hs, Result.andThen_ok, Sem.run_pure, List.map_cons, hs, Option.getD_some]
    rw [ih (fun g hg => h g (List.mem_cons_of_mem _ hg))]
    rfl

theorem parts_all {fs : List Field} {e : Env} {a : Act} (hev : ∀ {o : Operand} {x : Opd}, trOpd o = some x → Rel N ι H w (x.ev X e) (a.eval o)) :
    ∀ (qs : List (Nat × Operand)) (ps : List (Nat × Nat × Opd)), trParts P fs qs = some ps → ps.all (fun p => (p.2.2.ev X e).cells.length == p.2.1 && (p.2.2.ev X e).solid) = true →
      All2 (fun (q : Nat × Value) (p : Nat × List AV) => ((fs.map fun f => (f.offset, (sizeT P f.type).getD 0)).toArray)[q.1]? = some (p.1, p.2.length) ∧ CellsOK N ι H w p.2 q.2.cells)
        (qs.map fun (i, x) => (i, a.eval x)) (ps.map fun p => (p.1, (p.2.2.ev X e).cells))
  | [], ps, h, _ => by
    obtain rfl := Option.some.inj h
    exact .nil
  | (i, x) :: qs, ps, h, hall => by
    simp only [trParts] at h
    split at h
    · rename_i f hf
      split at h
      · rename_i s y ys e1 e2 e3
        obtain rfl := Option.some.inj h
        simp only [List.all_cons, Bool.and_eq_true, beq_iff_eq] at hall
        obtain ⟨⟨h1, h2⟩, h3⟩ := hall
        refine .cons ⟨?_, cellsOK_of (hev e2) h2⟩ (parts_all hev qs ys e3 h3)
        simp [hf, e1, h1]
      · cases h
    · cases h

theorem build_says {t : TypeId} {fs : Array Field} {za : AV} {qs : List (Nat × Operand)} {ps : List (Nat × Nat × Opd)} {e : Env} {a : Act} (hu : P.underlying t = some (.struct fs)) (hz : zeroT P t = some za) (hzs : za.solid = true)
    (hp : trParts P fs.toList qs = some ps) (hfs : fs.toList.all (fun f => (sizeT P f.type).isSome) = true)
    (hev : ∀ {o : Operand} {x : Opd}, trOpd o = some x → Rel N ι H w (x.ev X e) (a.eval o)) (hall : ps.all (fun p => (p.2.2.ev X e).cells.length == p.2.1 && (p.2.2.ev X e).solid) = true)
    {cs : List AV} (hfill : fillA (ps.map fun p => (p.1, (p.2.2.ev X e).cells)) za.cells = some cs) :
    ∃ v, Rel N ι H w (.agg cs) v ∧ ∀ w', (Instr.build t (qs.map fun (i, x) => (i, a.eval x)).toArray).run P w' = .ok v w' := by
  obtain ⟨zv, hzv, hzrun⟩ : ∃ v, VD N w za v ∧ ∀ w', (zeroValue t).run P w' = .ok v w' := by
    unfold zeroT at hz
    cases hi : P.info? t with
    | none => rw [hi] at hz; cases hz
    | some i =>
      rw [hi] at hz
      simp only at hz
      cases hzz : i.zero with
      | none => rw [hzz] at hz; cases hz
      | some z =>
        rw [hzz] at hz
        exact ⟨z, constA_vd hz, fun w' => by simp [zeroValue, typeInfo, hi, hzz]⟩
  obtain ⟨cells', hf, hc⟩ := fill_says _ _ _ za.cells cs zv.cells (cellsOK_of (.still _ _ hzv) hzs) hfill (parts_all hev qs ps hp hall)
  refine ⟨_, agg_of hc, fun w' => ?_⟩
  have hpl := run_places (P := P) fs.toList (List.all_eq_true.1 hfs) w'
  have hpl' : (fs.mapM (m := Sem) fun f => do pure (f.offset, ← sizeOf f.type)).run P w' = .ok (fs.toList.map fun f => (f.offset, (sizeT P f.type).getD 0)).toArray w' := by
    rw [Array.mapM_eq_mapM_toList, Sem.run_map, hpl]; rfl
  simp only [Instr.build, Sem.run_bind, hzrun, Result.andThen_ok, run_underlying hu, hpl', hf, Sem.run_pure]

/-! ### slices written out -/
theorem elems_fold (sz : Nat) : ∀ (ps : List (Nat × AV)) (es : List AV), (ps.foldl (fun es p => es.set p.1 p.2) es).length = es.length
  | [], _ => rfl
  | p :: ps, es => by simp only [List.foldl_cons]; rw [elems_fold sz ps]; simp

/-- A row of elements and its cells. -/
def RowOK (N : Nat → Prop) (w : World) (sz : Nat) (es : List AV) (cells : Array Value) : Prop :=
  cells.size = es.length * sz ∧ (∀ e ∈ es, e.cells.length = sz) ∧
  ∀ (i : Nat) (e : AV) (j : Nat) (c : AV), es[i]? = some e → e.cells[j]? = some c → ∃ v, cells[i * sz + j]? = some v ∧ one v ∧ VD N w c v

theorem rowFill_says (sz : Nat) : ∀ (qs : List (Nat × Value)) (ps : List (Nat × AV)) (es : List AV) (cells : Array Value), RowOK N w sz es cells →
    All2 (fun (q : Nat × Value) (p : Nat × AV) => q.1 = p.1 ∧ p.1 < es.length ∧ p.2.cells.length = sz ∧ q.2.cells.size = sz ∧ ∀ (j : Nat) (c : AV), p.2.cells[j]? = some c → ∃ u, q.2.cells[j]? = some u ∧ one u ∧ VD N w c u) qs ps →
    ∃ cells', Instr.fill (fun i => some (i * sz, sz)) cells qs = some cells' ∧ RowOK N w sz (ps.foldl (fun es p => es.set p.1 p.2) es) cells'
  | _, _, es, cells, hc, .nil => ⟨cells, rfl, hc⟩
  | (i, v) :: qs, (k, x) :: ps, es, cells, hc, .cons h1 h2 => by
    obtain ⟨g1, g2, g3, g4, g5⟩ := h1
    simp only at g1 g2 g3 g4 g5
    subst g1
    have hfit : i * sz + v.cells.size ≤ cells.size := by
      rw [g4, hc.1]
      have : (i + 1) * sz ≤ es.length * sz := Nat.mul_le_mul_right _ g2
      rw [Nat.add_mul] at this; omega
    obtain ⟨f1, f2⟩ := array_fold v.cells (i * sz) cells hfit
    have hnew : RowOK N w sz (es.set i x) (v.cells.zipIdx.foldl (fun cs (c, j) => cs.setIfInBounds (i * sz + j) c) cells) := by
      refine ⟨by rw [f1, hc.1]; simp, fun e he => ?_, fun m e j c he hj => ?_⟩
      · rcases List.mem_or_eq_of_mem_set he with h | h
        · exact hc.2.1 e h
        · rw [h]; exact g3
      · rw [f2]
        simp only [List.getElem?_set] at he
        by_cases hm : i = m
        · subst hm
          rw [if_pos rfl, if_pos g2] at he
          obtain rfl := Option.some.inj he
          obtain ⟨u, hu, ho, hr⟩ := g5 j c hj
          have hjl : j < sz := by rw [← g3]; exact (List.getElem?_eq_some_iff.1 hj).1
          refine ⟨u, ?_, ho, hr⟩
          rw [if_pos (by omega), Nat.add_sub_cancel_left]; exact hu
        · rw [if_neg hm] at he
          obtain ⟨u, hu, ho, hr⟩ := hc.2.2 m e j c he hj
          have hjl : j < sz := by rw [← hc.2.1 e (List.mem_of_getElem? he)]; exact (List.getElem?_eq_some_iff.1 hj).1
          refine ⟨u, ?_, ho, hr⟩
          rw [if_neg]
          · exact hu
          · intro hin
            rcases Nat.lt_or_gt_of_ne hm with hlt | hlt
            · have : (i + 1) * sz ≤ m * sz := Nat.mul_le_mul_right _ hlt
              rw [Nat.add_mul] at this; omega
            · have : (m + 1) * sz ≤ i * sz := Nat.mul_le_mul_right _ hlt
              rw [Nat.add_mul] at this; omega
    have h2' : All2 (fun (q : Nat × Value) (p : Nat × AV) => q.1 = p.1 ∧ p.1 < (es.set i x).length ∧ p.2.cells.length = sz ∧ q.2.cells.size = sz ∧ ∀ (j : Nat) (c : AV), p.2.cells[j]? = some c → ∃ u, q.2.cells[j]? = some u ∧ one u ∧ VD N w c u) qs ps :=
      h2.imp (fun q p hq => ⟨hq.1, by simpa using hq.2.1, hq.2.2⟩)
    obtain ⟨cells', e, hc'⟩ := rowFill_says sz qs ps _ _ hnew h2'
    refine ⟨cells', ?_, hc'⟩
    have hno : ¬ ((decide (v.cells.size ≠ sz) || decide (i * sz + v.cells.size > cells.size)) = true) := by
      simp; omega
    simp only [Instr.fill]
    rw [if_neg hno]
    exact e

theorem elems_all {sz len : Nat} {e : Env} {a : Act} (hev : ∀ {o : Operand} {x : Opd}, trOpd o = some x → Rel N ι H w (x.ev X e) (a.eval o)) :
    ∀ (qs : List (Nat × Operand)) (ps : List (Nat × Opd)), trElems qs = some ps → ps.all (fun p => (p.2.ev X e).cells.length == sz && (p.2.ev X e).pure && (p.2.ev X e).solid && p.1 < len) = true →
      All2 (fun (q : Nat × Value) (p : Nat × AV) => q.1 = p.1 ∧ p.1 < len ∧ p.2.cells.length = sz ∧ q.2.cells.size = sz ∧ ∀ (j : Nat) (c : AV), p.2.cells[j]? = some c → ∃ u, q.2.cells[j]? = some u ∧ one u ∧ VD N w c u)
        (qs.map fun (i, x) => (i, a.eval x)) (ps.map fun p => (p.1, (p.2.ev X e).norm))
  | [], ps, h, _ => by
    obtain rfl := Option.some.inj h
    exact .nil
  | (i, x) :: qs, ps, h, hall => by
    simp only [trElems] at h
    split at h
    · rename_i y ys e1 e2
      obtain rfl := Option.some.inj h
      simp only [List.all_cons, Bool.and_eq_true, beq_iff_eq, decide_eq_true_eq] at hall
      obtain ⟨⟨⟨⟨h1, h2⟩, h3⟩, h4⟩, h5⟩ := hall
      have hn : Rel N ι H w (y.ev X e).norm (a.eval x) := .still _ _ (norm_vd (rel_pure (hev e1) h2))
      obtain ⟨c1, c2⟩ := cells_both hn ((norm_solid _).trans h3)
      refine .cons ⟨rfl, h4, (norm_len _).trans h1, c1.symm.trans ((norm_len _).trans h1), fun j c hj => ?_⟩ (elems_all hev qs ys e2 h5)
      obtain ⟨u, q1, q2, _, q4⟩ := c2 j c hj
      exact ⟨u, q1, q2, q4 (norm_pure h2)⟩
    · cases h

theorem buildSlice_says {t el : TypeId} {sz len : Nat} {za : AV} {qs : List (Nat × Operand)} {ps : List (Nat × Opd)} {e : Env} {a : Act} {π : Key} {d : Nat} (hu : P.underlying t = some (.slice el)) (hs : sizeT P el = some sz)
    (hz : zeroT P el = some za) (hzl : za.cells.length = sz) (hzs : za.solid = true) (h0 : sz ≠ 0) (hbig : len * sz ≤ 2 ^ 24) (hp : trElems qs = some ps) (hS : SR X F B ι H w)
    (hev : ∀ {o : Operand} {x : Opd}, trOpd o = some x → Rel (bad F ι H) ι H w (x.ev X e) (a.eval o))
    (hall : ps.all (fun p => (p.2.ev X e).cells.length == sz && (p.2.ev X e).pure && (p.2.ev X e).solid && p.1 < len) = true) :
    ∃ u w' ι', (Instr.buildSlice t len (qs.map fun (i, x) => (i, a.eval x)).toArray).run P w = .ok u w' ∧
      SR X F B ι' (fresh H (d :: π) ⟨false, true, sz, ps.foldl (fun es p => es.set p.1 (p.2.ev X e).norm) (List.replicate len za.norm)⟩) w' ∧
      Adv ι H w ι' (fresh H (d :: π) ⟨false, true, sz, ps.foldl (fun es p => es.set p.1 (p.2.ev X e).norm) (List.replicate len za.norm)⟩) w' ∧
      Rel (bad F ι' (fresh H (d :: π) ⟨false, true, sz, ps.foldl (fun es p => es.set p.1 (p.2.ev X e).norm) (List.replicate len za.norm)⟩)) ι' (fresh H (d :: π) ⟨false, true, sz, ps.foldl (fun es p => es.set p.1 (p.2.ev X e).norm) (List.replicate len za.norm)⟩) w'
        (.own (d :: π) ((H (d :: π)).1 + 1) 0 len) u := by
  obtain ⟨zv, hzv, hzrun⟩ : ∃ v, VD (bad F ι H) w za.norm v ∧ ∀ w', (zeroValue el).run P w' = .ok v w' := by
    unfold zeroT at hz
    cases hi : P.info? el with
    | none => rw [hi] at hz; cases hz
    | some i =>
      rw [hi] at hz
      simp only at hz
      cases hzz : i.zero with
      | none => rw [hzz] at hz; cases hz
      | some z =>
        rw [hzz] at hz
        exact ⟨z, norm_vd (constA_vd hz), fun w' => by simp [zeroValue, typeInfo, hi, hzz]⟩
  replace hzl : za.norm.cells.length = sz := (norm_len za).trans hzl
  replace hzs : za.norm.solid = true := (norm_solid za).trans hzs
  clear hz
  generalize za.norm = zn at hzl hzs hzv ⊢
  have hcz : CellsOK (bad F ι H) ι H w zn.cells zv.cells := cellsOK_of (.still _ _ hzv) hzs
  have hzn : zv.cells.size = sz := hcz.1.symm.trans hzl
  have hpos : 0 < sz := Nat.pos_of_ne_zero h0
  -- the zero row
  let row0 : Array Value := (Array.range (len * sz)).map (zv.cells[· % zv.cells.size]!)
  have hrow0 : RowOK (bad F ι H) w sz (List.replicate len zn) row0 := by
    refine ⟨by simp [row0], fun e he => by rw [(List.mem_replicate.1 he).2]; exact hzl, fun i e j c he hj => ?_⟩
    have hi : i < len := by have := (List.getElem?_eq_some_iff.1 he).1; simpa using this
    rw [List.getElem?_replicate, if_pos hi] at he
    obtain rfl := Option.some.inj he
    obtain ⟨u, hu', ho, _⟩ := hcz.2 j c hj
    have hjl : j < sz := by rw [← hzl]; exact (List.getElem?_eq_some_iff.1 hj).1
    have hlt : i * sz + j < len * sz := by
      have : (i + 1) * sz ≤ len * sz := Nat.mul_le_mul_right _ hi
      rw [Nat.add_mul] at this; omega
    have hm : (i * sz + j) % zv.cells.size = j := by rw [hzn, Nat.mul_comm i sz, Nat.mul_add_mod]; exact Nat.mod_eq_of_lt hjl
    have hvd : VD (bad F ι H) w c u := vd_cell hzv hzs hj hu'
    refine ⟨u, ?_, ho, hvd⟩
    have hjz : j < zv.cells.size := by omega
    simp only [row0, Array.getElem?_map, Array.getElem?_range, if_pos hlt, Option.map_some, hm]
    rw [getElem!_pos zv.cells j hjz]
    rw [Array.getElem?_eq_getElem hjz] at hu'
    rw [Option.some.inj hu']
  have hlenR : (List.replicate len zn).length = len := by simp
  obtain ⟨cells', hf, hrow⟩ := rowFill_says sz _ _ _ row0 hrow0 (by rw [hlenR]; exact elems_all hev qs ps hp hall)
  rw [List.foldl_map] at hrow
  have hlenE : (ps.foldl (fun es p => es.set p.1 (p.2.ev X e).norm) (List.replicate len zn)).length = len := by
    have := elems_fold sz (ps.map fun p => (p.1, (p.2.ev X e).norm)) (List.replicate len zn)
    rw [List.foldl_map] at this; simpa using this
  have hrun : (Instr.buildSlice t len (qs.map fun (i, x) => (i, a.eval x)).toArray).run P w = .ok (.slice (some ⟨w.heap.size, 0, none⟩) len len) (w.alloc (.cells cells' el)) := by
    have hb : ¬ (len * sz > 2 ^ 24) := by omega
    simp only [Instr.buildSlice, Sem.run_bind, run_underlying hu, Result.andThen_ok, run_sizeOf hs, Sem.run_ite, if_neg hb, Sem.run_pure]
    by_cases hl0 : len * sz = 0
    · have hl : len = 0 := by rcases Nat.mul_eq_zero.1 hl0 with h | h; exact h; exact absurd h h0
      subst hl
      have er : row0 = #[] := by simp [row0]
      rw [er] at hf
      simp only [Nat.zero_mul, if_true, Sem.run_pure, Result.andThen_ok, Array.range_zero', List.map_toArray, List.map_nil, hf, newRow, Sem.run_bind, run_newObj, Sem.run_pure, World.alloc_eq]
    · simp only [if_neg hl0, hzrun, Result.andThen_ok]
      have hf' : Instr.fill (fun i => some (i * sz, sz)) ((Array.range (len * sz)).map (zv.cells[· % zv.cells.size]!)) (qs.map fun (i, x) => (i, a.eval x)) = some cells' := hf
      simp only [hf', newRow, Sem.run_bind, run_newObj, Sem.run_pure, Result.andThen_ok, World.alloc_eq]
  obtain ⟨hS', hA'⟩ := hS.put (d :: π) ((H (d :: π)).1 + 1) ⟨false, true, sz, ps.foldl (fun es p => es.set p.1 (p.2.ev X e).norm) (List.replicate len zn)⟩ (w.heap.size, cells'.size) (w.alloc (.cells cells' el)) cells' el
    (.inl (Nat.lt_succ_self _)) (.inr (Nat.le_refl _)) rfl rfl rfl (by simp) h0 (fun b hb _ => heap_alloc_old w _ b hb) (heap_alloc_new w _) rfl (by simp only; rw [hrow.1]; exact Nat.le_refl _) hrow.2.1
    (fun i e j c h1 h2 => by obtain ⟨v, q1, q2, q3⟩ := hrow.2.2 i e j c h1 h2; exact ⟨v, q1, q2, .still _ _ q3, fun _ => q3⟩)
  refine ⟨_, _, _, hrun, hS', hA', ?_⟩
  have := Rel.own (N := bad F (ι.set (d :: π) (w.heap.size, cells'.size)) (fresh H (d :: π) ⟨false, true, sz, ps.foldl (fun es p => es.set p.1 (p.2.ev X e).norm) (List.replicate len zn)⟩)) (ι := ι.set (d :: π) (w.heap.size, cells'.size))
    (H := fresh H (d :: π) ⟨false, true, sz, ps.foldl (fun es p => es.set p.1 (p.2.ev X e).norm) (List.replicate len zn)⟩) (w := w.alloc (.cells cells' el)) (d :: π) ((H (d :: π)).1 + 1) 0 len len
    ⟨false, true, sz, ps.foldl (fun es p => es.set p.1 (p.2.ev X e).norm) (List.replicate len zn)⟩ (by simp [fresh, Heap.live, Heap.set]) h0 (by simp only; omega) (Nat.le_refl _) (by simp only; omega)
    (by simp only [Pos.set, if_true, Nat.zero_add]; rw [hrow.1, hlenE]; exact Nat.le_refl _)
  simpa [Pos.set] using this

end Go.Den
