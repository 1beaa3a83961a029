/-
  Operations that leave memory alone: one by one. Its conditions: none.
-/
import Derived.Test.YtcahamgecejmnaaDoorDenQuiet
import Derived.Laws.Rows
namespace Go.Den
open Go

variable {P : Program} {X : Ctx} {F : Nat → Prop} {B : Nat} {ι : Pos} {H : Heap} {w : World} {N : Nat → Prop}

/-- What there was is as it was. -/
def Same (w w' : World) : Prop := w.heap.size ≤ w'.heap.size ∧ ∀ b, b < w.heap.size → w'.heap[b]? = w.heap[b]?
theorem Same.refl (w : World) : Same w w := ⟨Nat.le_refl _, fun _ _ => rfl⟩
theorem Same.cell {w w' : World} (h : Same w w') {b o : Nat} {v : Value} (hc : w.cell? ⟨b, o, none⟩ = some v) : w'.cell? ⟨b, o, none⟩ = some v :=
  (cell_of (h.2 b (lt_of_cell hc))).trans hc

/-- An operation that answers a value and leaves all as it was. -/
def Says (P : Program) (N : Nat → Prop) (ι : Pos) (H : Heap) (w : World) (s : Sem Next) (r : AV) : Prop :=
  ∃ v, Rel N ι H w r v ∧ ∀ w', Same w w' → s.run P w' = .ok (.value v) w'

theorem Says.of {s : Sem Value} {r : AV} {v : Value} (hr : Rel N ι H w r v) (h : ∀ w', Same w w' → s.run P w' = .ok v w') :
    Says P N ι H w (do pure (.value (← s))) r :=
  ⟨v, hr, fun w' hw => by rw [Sem.run_bind, h w' hw]; rfl⟩

theorem wrap_back (k : IntKind) (n : Int) : VD N w (.int k n) (.int k n) := .int k n

/-! ### numbers, texts -/
theorem run_intA {op : BinOp} {k : IntKind} {a b : Int} {r : AV} (h : intA op k a b = some r) (h1 : op ≠ .shl) (h2 : op ≠ .shr) (xt : TypeId) :
    ∃ v, VD N w r v ∧ ∀ w', (binOp op xt (.int k a) (.int k b)).run P w' = .ok v w' := by
  cases op <;> simp only [intA] at h <;> first | (cases h; done) | (exact absurd rfl h1) | (exact absurd rfl h2) | skip
  case quo =>
    split at h
    · cases h
    · rename_i hb
      obtain rfl := Option.some.inj h
      exact ⟨_, .int _ _, fun w' => by simp [binOp, Op.intDiv, hb]⟩
  case rem =>
    split at h
    · cases h
    · rename_i hb
      obtain rfl := Option.some.inj h
      exact ⟨_, .int _ _, fun w' => by simp [binOp, Op.intDiv, hb]⟩
  case add => obtain rfl := Option.some.inj h; exact ⟨_, .int _ _, fun w' => by rw [binOp_add]; rfl⟩
  case sub => obtain rfl := Option.some.inj h; exact ⟨_, .int _ _, fun w' => by rw [binOp_sub]; rfl⟩
  case mul => obtain rfl := Option.some.inj h; exact ⟨_, .int _ _, fun w' => by rw [binOp_mul]; rfl⟩
  case and => obtain rfl := Option.some.inj h; exact ⟨_, .int _ _, fun w' => by rw [binOp_and]; rfl⟩
  case or => obtain rfl := Option.some.inj h; exact ⟨_, .int _ _, fun w' => by rw [binOp_or]; rfl⟩
  case xor => obtain rfl := Option.some.inj h; exact ⟨_, .int _ _, fun w' => by rw [binOp_xor]; rfl⟩
  case andNot => obtain rfl := Option.some.inj h; exact ⟨_, .int _ _, fun w' => by rw [binOp_andNot]; rfl⟩
  case eql => obtain rfl := Option.some.inj h; exact ⟨_, .bool _, fun w' => by rw [binOp_eql]; rfl⟩
  case neq => obtain rfl := Option.some.inj h; exact ⟨_, .bool _, fun w' => by rw [binOp_neq]; rfl⟩
  case lss => obtain rfl := Option.some.inj h; exact ⟨_, .bool _, fun w' => by rw [binOp_lss]; rfl⟩
  case leq => obtain rfl := Option.some.inj h; exact ⟨_, .bool _, fun w' => by rw [binOp_leq]; rfl⟩
  case gtr => obtain rfl := Option.some.inj h; exact ⟨_, .bool _, fun w' => by rw [binOp_gtr]; rfl⟩
  case geq => obtain rfl := Option.some.inj h; exact ⟨_, .bool _, fun w' => by rw [binOp_geq]; rfl⟩

theorem run_shiftA {op : BinOp} {k k' : IntKind} {a b : Int} {r : AV} (h : shiftA op k a b = some r) (xt : TypeId) :
    ∃ v, VD N w r v ∧ ∀ w', (binOp op xt (.int k a) (.int k' b)).run P w' = .ok v w' := by
  unfold shiftA at h
  split at h
  · cases h
  · rename_i hb
    split at h
    · obtain rfl := Option.some.inj h
      exact ⟨_, .int _ _, fun w' => by simp [binOp, Op.shift, hb]⟩
    · obtain rfl := Option.some.inj h
      exact ⟨_, .int _ _, fun w' => by simp [binOp, Op.shift, hb]⟩
    · cases h

theorem toList_mk (s : List UInt8) : (⟨s.toArray⟩ : ByteArray).toList = s := by
  simp

theorem run_strA {op : BinOp} {a b : List UInt8} {r : AV} (h : strA op a b = some r) (xt : TypeId) :
    ∃ v, VD N w r v ∧ ∀ w', (binOp op xt (.string ⟨a.toArray⟩) (.string ⟨b.toArray⟩)).run P w' = .ok v w' := by
  have hs : ∀ (op : BinOp), binOp op xt (.string ⟨a.toArray⟩) (.string ⟨b.toArray⟩) = Op.stringOp op ⟨a.toArray⟩ ⟨b.toArray⟩ := by
    intro op; cases op <;> rfl
  rw [hs]
  cases op <;> simp only [strA] at h <;> first | (cases h; done) | skip
  case add =>
    split at h
    · rename_i hl
      obtain rfl := Option.some.inj h
      refine ⟨_, .str _, fun w' => ?_⟩
      have e1 : (⟨a.toArray⟩ : ByteArray) ++ ⟨b.toArray⟩ = ⟨(a ++ b).toArray⟩ := by
        apply ByteArray.ext; simp
      have e2 : ¬ ((((⟨a.toArray⟩ : ByteArray).size + (⟨b.toArray⟩ : ByteArray).size : Nat) : Int) > IntKind.i64.max) := by
        have m : IntKind.i64.max = 9223372036854775807 := by decide
        have s1 : (⟨a.toArray⟩ : ByteArray).size = a.length := by simp [ByteArray.size]
        have s2 : (⟨b.toArray⟩ : ByteArray).size = b.length := by simp [ByteArray.size]
        rw [m, s1, s2]; omega
      simp only [Op.stringOp, if_neg e2, e1, Sem.run_pure]
    · cases h
  all_goals
    obtain rfl := Option.some.inj h
    exact ⟨_, .bool _, fun w' => by simp [Op.stringOp]⟩

/-! ### what a type tells -/
theorem run_isAgg {t : TypeId} {g : Bool} (h : aggT P t = some g) (w' : World) : (isAgg t).run P w' = .ok g w' := by
  unfold aggT at h
  unfold isAgg
  cases hu : P.underlying t with
  | none => rw [hu] at h; cases h
  | some d =>
    rw [hu] at h
    simp only [Sem.run_bind, run_underlying hu, Result.andThen_ok]
    cases d <;> (obtain rfl := Option.some.inj h; rfl)

theorem run_sizeOf {t : TypeId} {s : Nat} (h : sizeT P t = some s) (w' : World) : (sizeOf t).run P w' = .ok s w' := by
  unfold sizeT at h
  split at h
  · rename_i i hi
    obtain rfl := Option.some.inj h
    simp [sizeOf, typeInfo, hi]
  · cases h

theorem run_zeroT {t : TypeId} {z : AV} (h : zeroT P t = some z) (w' : World) : ∃ v, VD N w z v ∧ (zeroValue t).run P w' = .ok v w' := by
  unfold zeroT at h
  split at h
  · rename_i i hi
    split at h
    · rename_i v hv
      exact ⟨v, constA_vd h, by simp [zeroValue, typeInfo, hi, hv]⟩
    · cases h
  · cases h

/-! ### places -/
theorem run_loadCellsFrom (b o : Nat) (vf : Nat → Value) (w' : World) : ∀ (n i : Nat) (acc : Array Value), (∀ j, j < n → w'.cell? ⟨b, o + (i + j), none⟩ = some (vf (i + j))) →
    (loadCellsFrom ⟨b, o, none⟩ i n acc).run P w' = .ok (acc ++ ((List.range n).map fun j => vf (i + j)).toArray) w'
  | 0, i, acc, _ => by simp [loadCellsFrom]
  | n + 1, i, acc, h => by
    have h0 := h 0 (by omega)
    simp only [loadCellsFrom, Sem.run_bind, run_load, Addr.add_lit]
    rw [show o + i = o + (i + 0) from rfl, h0]
    simp only [Result.andThen_ok]
    rw [run_loadCellsFrom b o vf w' n (i + 1) _ (fun j hj => by have := h (j + 1) (by omega); rw [show i + 1 + j = i + (j + 1) by omega]; exact this)]
    congr 1
    rw [List.range_succ_eq_map]
    simp [Function.comp_def, Nat.add_assoc, Nat.add_comm 1]

theorem run_loadCells {b o n : Nat} {vf : Nat → Value} {w' : World} (h : ∀ j, j < n → w'.cell? ⟨b, o + j, none⟩ = some (vf j)) :
    (loadCells ⟨b, o, none⟩ n).run P w' = .ok ((List.range n).map vf).toArray w' := by
  have := run_loadCellsFrom (P := P) b o vf w' n 0 #[] (fun j hj => by simpa using h j hj)
  simpa [loadCells] using this

/-- Where an address leads. -/
theorem place {x el : AV} {j : Nat} {v : Value} (hS : SR X F B ι H w) (hx : Rel (bad F ι H) ι H w x v) (h : elemAt H x = some (el, j)) :
    ∃ (b o : Nat) (vf : Nat → Value), v = .pointer (some ⟨b, o + j, none⟩) ∧ ∀ (i : Nat) (c : AV), el.cells[i]? = some c → w.cell? ⟨b, o + i, none⟩ = some (vf i) ∧ one (vf i) ∧ Rel (bad F ι H) ι H w c (vf i) := by
  cases x with
  | rp e j' =>
    obtain ⟨rfl, rfl⟩ := Prod.mk.inj (Option.some.inj h)
    cases hx with
    | still _ _ hv => cases hv with
      | rp e j b o vf hw hr => exact ⟨b, o, vf, rfl, fun i c hi => ⟨(hw i c hi).2.1, (hw i c hi).2.2, .still _ _ (hr i c hi)⟩⟩
  | ptr k ver i j' =>
    simp only [elemAt] at h
    split at h
    · rename_i b hb
      split at h
      · rename_i e he
        obtain ⟨rfl, rfl⟩ := Prod.mk.inj (Option.some.inj h)
        cases hx with
        | still _ _ hv => cases hv
        | ptrDead _ _ _ _ _ _ _ h2 => rw [h2] at hb; cases hb
        | iter _ _ _ _ b' hb' _ hi => obtain rfl : b' = b := Option.some.inj (hb'.symm.trans hb); have := (List.getElem?_eq_some_iff.1 he).1; omega
        | ptr _ _ _ _ b' e' hb' h0 he' =>
          obtain rfl : b' = b := Option.some.inj (hb'.symm.trans hb)
          obtain ⟨cs, T, hB⟩ := hS.blk k b' (live_some hb).2 h0
          refine ⟨(ι k).1, i * b'.sz, fun m => cs.getD (i * b'.sz + m) undef, rfl, fun m c hm => ?_⟩
          obtain ⟨v, hv, ho, hr, _⟩ := hB.cell i e m c he hm
          have e1 : cs.getD (i * b'.sz + m) undef = v := by simp [Array.getD_eq_getD_getElem?, hv]
          simp only [e1]
          refine ⟨?_, ho, hr⟩
          rw [cell_of_row w (ι k).1 _ cs T (0, 0) hB.row, hv]
      · cases h
    · cases h
  | _ => cases h

theorem partA_rel {cs : List AV} {off sz : Nat} {g : Bool} {r : AV} (h : partA cs off sz g = some r) {vf : Nat → Value}
    (hc : ∀ (i : Nat) (c : AV), cs[i]? = some c → one (vf i) ∧ Rel N ι H w c (vf i)) :
    (g = true ∧ off + sz ≤ cs.length ∧ Rel N ι H w r (.agg ((List.range sz).map fun i => vf (off + i)).toArray)) ∨ (g = false ∧ ∃ c, cs[off]? = some c ∧ r = c) := by
  unfold partA at h
  split at h
  · rename_i hg
    split at h
    · rename_i hl
      obtain rfl := Option.some.inj h
      refine .inl ⟨hg, hl, .agg _ _ (by simp; omega) ?_ ?_⟩
      · intro u hu
        obtain ⟨i, hi, rfl⟩ := List.mem_map.1 hu
        have hlt : off + i < cs.length := by have := List.mem_range.1 hi; omega
        exact (hc (off + i) _ (List.getElem?_eq_getElem hlt)).1
      · intro i c u h1 h2
        have hi : i < sz := by
          rcases Nat.lt_or_ge i sz with h | h
          · exact h
          · simp [h] at h2
        simp [hi] at h1 h2
        subst h2
        exact (hc (off + i) c (by simpa [Nat.add_comm] using h1)).2
    · cases h
  · rename_i hg
    exact .inr ⟨by simpa using hg, r, h, rfl⟩

theorem load_says {t : TypeId} {s : Nat} {g : Bool} {x : AV} {v : Value} {r : AV} (hg : aggT P t = some g) (hs : sizeT P t = some s) (hS : SR X F B ι H w)
    (hx : Rel (bad F ι H) ι H w x v) (h : loadA H s g x = some r) : ∃ u, Rel (bad F ι H) ι H w r u ∧ ∀ w', Same w w' → (Instr.loadAt t v).run P w' = .ok u w' := by
  unfold loadA at h
  split at h
  · rename_i e j he
    obtain ⟨b, o, vf, rfl, hcell⟩ := place hS hx he
    rcases partA_rel h (vf := vf) (fun i c hi => (hcell i c hi).2) with ⟨rfl, hl, hr⟩ | ⟨rfl, c, hc, rfl⟩
    · refine ⟨_, hr, fun w' hw => ?_⟩
      have hcells : ∀ i, i < s → w'.cell? ⟨b, o + j + i, none⟩ = some (vf (j + i)) := by
        intro i hi
        have hlt : j + i < e.cells.length := by omega
        have := (hcell (j + i) _ (List.getElem?_eq_getElem hlt)).1
        rw [Nat.add_assoc]; exact hw.cell this
      simp only [Instr.loadAt, Instr.sureAddr, Sem.run_bind, Sem.run_pure, Result.andThen_ok, loadVar, run_isAgg hg, if_true, run_sizeOf hs]
      rw [run_loadCells (vf := fun i => vf (j + i)) hcells]
      rfl
    · refine ⟨vf j, (hcell j _ hc).2.2, fun w' hw => ?_⟩
      have := hw.cell (hcell j _ hc).1
      simp only [Instr.loadAt, Instr.sureAddr, Sem.run_bind, Sem.run_pure, Result.andThen_ok, loadVar, run_isAgg hg, Bool.false_eq_true, if_false, run_load, this]
  · cases h

theorem run_part {t : TypeId} {s : Nat} {g : Bool} {vs : List Value} {off : Nat} {cs : List AV} {r : AV} (hg : aggT P t = some g) (hs : sizeT P t = some s) (hl : cs.length = vs.length)
    (h1 : ∀ v ∈ vs, one v) (hc : ∀ (i : Nat) (c : AV) (v : Value), cs[i]? = some c → vs[i]? = some v → Rel N ι H w c v) (h : partA cs off s g = some r) :
    ∃ u, Rel N ι H w r u ∧ ∀ w', (part t vs.toArray off).run P w' = .ok u w' := by
  have hc' : ∀ (i : Nat) (c : AV), cs[i]? = some c → one (vs.getD i undef) ∧ Rel N ι H w c (vs.getD i undef) := by
    intro i c hi
    have hlt : i < vs.length := by rw [← hl]; exact (List.getElem?_eq_some_iff.1 hi).1
    have e1 : vs.getD i undef = vs[i] := by simp [List.getD_eq_getElem?_getD, hlt]
    rw [e1]
    exact ⟨h1 _ (List.getElem_mem hlt), hc i c _ hi (List.getElem?_eq_getElem hlt)⟩
  rcases partA_rel h (vf := fun i => vs.getD i undef) hc' with ⟨rfl, hle, hr⟩ | ⟨rfl, c, hcc, rfl⟩
  · refine ⟨_, hr, fun w' => ?_⟩
    simp only [part, Sem.run_bind, run_isAgg hg, Result.andThen_ok, if_true, run_sizeOf hs, Sem.run_pure]
    congr 2
    apply Array.ext'
    simp only [List.extract_toArray, List.extract_eq_take_drop]
    apply List.ext_getElem?
    intro i
    simp only [List.getElem?_take, List.getElem?_drop, List.getElem?_map]
    by_cases hi : i < s
    · have hlt : off + i < vs.length := by omega
      simp [hi, hlt, List.getD_eq_getElem?_getD]
    · simp [hi]
  · have hlt : off < vs.length := by rw [← hl]; exact (List.getElem?_eq_some_iff.1 hcc).1
    refine ⟨vs.getD off undef, (hc' off _ hcc).2, fun w' => ?_⟩
    have e1 : vs.toArray[off]? = some (vs.getD off undef) := by simp [List.getD_eq_getElem?_getD, hlt]
    simp only [part, Sem.run_bind, run_isAgg hg, Result.andThen_ok, Bool.false_eq_true, if_false, e1, Sem.run_pure]

/-! ### addresses -/
theorem addr_form {x : AV} {v : Value} (hx : Rel N ι H w x v) (h : (∃ k ver i j, x = .ptr k ver i j) ∨ ∃ e j, x = .rp e j) : ∃ b o, v = .pointer (some ⟨b, o, none⟩) := by
  rcases h with ⟨k, ver, i, j, rfl⟩ | ⟨e, j, rfl⟩
  · cases hx with
    | still _ _ hv => cases hv
    | ptr => exact ⟨_, _, rfl⟩
    | ptrDead => exact ⟨_, _, rfl⟩
    | iter => exact ⟨_, _, rfl⟩
  · cases hx with
    | still _ _ hv => cases hv with
      | rp => exact ⟨_, _, rfl⟩

theorem run_fieldAt {t : TypeId} {fs : Array Field} {f : Nat} {fd : Field} {s : Nat} (hu : P.underlying t = some (.struct fs)) (hf : fs[f]? = some fd) (hs : sizeT P fd.type = some s) (h0 : s ≠ 0)
    (b o : Nat) (w' : World) : (Instr.fieldAt t (.pointer (some ⟨b, o, none⟩)) f).run P w' = .ok (.pointer (some ⟨b, o + fd.offset, none⟩)) w' := by
  simp only [Instr.fieldAt, Sem.run_bind, run_underlying hu, Result.andThen_ok, hf, Instr.sureAddr, Sem.run_pure, fieldPlace, run_sizeOf hs, if_neg h0, Addr.add_lit]

theorem fieldAddr_says {t : TypeId} {fs : Array Field} {f : Nat} {fd : Field} {s : Nat} (hu : P.underlying t = some (.struct fs)) (hf : fs[f]? = some fd) (hs : sizeT P fd.type = some s) (h0 : s ≠ 0)
    {x r : AV} {v : Value} (hx : Rel N ι H w x v) (h : fieldAddrA fd.offset x = some r) :
    ∃ u, Rel N ι H w r u ∧ ∀ w', (Instr.fieldAt t v f).run P w' = .ok u w' := by
  cases x with
  | ptr k ver i j =>
    obtain rfl := Option.some.inj h
    cases hx with
    | still _ _ hv => cases hv
    | iter _ _ _ _ b hb h0' hi => exact ⟨_, .iter k ver i (j + fd.offset) b hb h0' hi, run_fieldAt hu hf hs h0 _ _⟩
    | ptr _ _ _ _ b e hb h0' he =>
      refine ⟨_, ?_, run_fieldAt hu hf hs h0 _ _⟩
      rw [Nat.add_assoc]; exact .ptr k ver i (j + fd.offset) b e hb h0' he
    | ptrDead _ _ _ _ b o h1 h2 => exact ⟨_, .ptrDead _ _ _ _ _ _ h1 h2, run_fieldAt hu hf hs h0 _ _⟩
  | rp e j =>
    obtain rfl := Option.some.inj h
    cases hx with
    | still _ _ hv => cases hv with
      | rp _ _ b o vf hw hr =>
        refine ⟨_, ?_, run_fieldAt hu hf hs h0 _ _⟩
        rw [Nat.add_assoc]; exact .still _ _ (.rp e (j + fd.offset) b o vf hw hr)
  | _ => cases h

theorem nat?_some {x : AV} {n : Nat} (h : nat? x = some n) : ∃ k, x = .int k (n : Int) := by
  cases x with
  | int k m =>
    simp only [nat?] at h
    split at h
    · rename_i h0
      obtain rfl := Option.some.inj h
      exact ⟨k, by rw [Int.toNat_of_nonneg h0]⟩
    · cases h
  | _ => cases h

theorem indexAddr_says {t el : TypeId} {s : Nat} (hu : P.underlying t = some (.slice el)) (hs : sizeT P el = some s) {x i r : AV} {v u : Value} (hx : Rel N ι H w x v) (hi : Rel N ι H w i u)
    (h : indexAddrA H s x i = some r) : ∃ y, Rel N ι H w r y ∧ ∀ w', (Instr.indexAt t v u).run P w' = .ok y w' := by
  unfold indexAddrA at h
  split at h
  · rename_i n hn
    obtain ⟨k, rfl⟩ := nat?_some hn
    obtain rfl := rel_int hi
    have run : ∀ (b o len cap : Nat) (w' : World), n < len → (Instr.indexAt t (.slice (some ⟨b, o, none⟩) len cap) (.int k n)).run P w' = .ok (.pointer (some ⟨b, o + n * s, none⟩)) w' := by
      intro b o len cap w' hlt
      have h1 : (0 : Int) ≤ (n : Int) ∧ (n : Int) < (len : Int) := by omega
      simp only [Instr.indexAt, asIntOf, Sem.run_bind, Sem.run_pure, Result.andThen_ok, run_underlying hu, Sem.run_ite, if_pos h1, run_sizeOf hs, Addr.add_lit, Int.toNat_natCast]
    cases x with
    | sl l =>
      simp only at h
      split at h
      · rename_i a ha
        split at h
        · rename_i hsz
          obtain rfl := Option.some.inj h
          have hlt : n < l.length := (List.getElem?_eq_some_iff.1 ha).1
          cases hx with
          | still _ _ hv => cases hv with
            | sl0 => cases ha
            | sl sz _ b o cap vf hc hszs hw hr =>
              obtain rfl : sz = s := (hszs a (List.mem_of_getElem? ha)).symm.trans hsz
              refine ⟨_, .still _ _ (.rp a 0 b (o + n * sz) (fun j => vf n j) (fun j c hj => ?_) (fun j c hj => hr n a j c ha hj)), fun w' => by rw [run b o l.length cap w' hlt]; rfl⟩
              exact hw n a j c ha hj
        · cases h
      · cases h
    | own key ver off len =>
      simp only at h
      split at h
      · rename_i b hb
        split at h
        · rename_i hlt
          obtain rfl := Option.some.inj h
          cases hx with
          | still _ _ hv => cases hv
          | ownDead _ _ _ _ _ _ _ _ h2 => rw [h2] at hb; cases hb
          | own _ _ _ _ c b' hb' hz h1 h2 h4 h3 =>
            obtain rfl : b' = b := Option.some.inj (hb'.symm.trans hb)
            refine ⟨_, .ptr key ver (off + n) 0 b' _ hb' hz (List.getElem?_eq_getElem (show off + n < b'.es.length by omega)), fun w' => ?_⟩
            rw [run _ _ len c w' hlt.1, ← hlt.2, Nat.add_mul]; rfl
        · cases h
      · cases h
    | _ => cases h
  · cases h

end Go.Den
